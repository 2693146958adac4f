/- How rooms begin: what holds of them. -/
import Derived.Test.YtgkcackpffimmaaP8
set_option linter.unusedVariables false
set_option linter.unusedSimpArgs false
set_option maxRecDepth 10000
set_option maxHeartbeats 4000000
namespace Go.Proofs.Ytgkcackpffimmaa
open Go.TM

theorem new_bad (c : Cfg) (hf : FewC c) (host : Int) (σ : TS) (hb : (checkS c).2.2 ≠ 0) : TPure Try.prog 43 [cfgTV c, .int .i64 host] σ (.tup [.nilp, .int .i64 (checkS c).2.2]) := by
  have hck := fun τ => check_walk c hf τ
  refine pure_of [] [.tmp 4, .tmp 5] Try.func43 (by kernel_rfl) rfl (by kernel_rfl) fun X hR hN => ?_
  show Tw _ _ _ _ ([some _, some _] ++ List.replicate 56 none) _
  simp only [List.replicate, List.cons_append, List.nil_append]
  repeat' (first
    | ((first | (with_reducible refine WL_do fun Cw cw => ?_) | ((with_reducible apply WP_do); intro Cw cw)); (focus (first | ((with_reducible first | apply O_move | apply O_assign | apply O_pickV | apply O_extract | apply O_nilCheck); (repeat rfl); (first | (with_reducible exact cw) | ((with_reducible apply cw); (focus ((try simp only [zp]); exact rfl)); clear cw Cw))) | ((with_reducible first | apply O_load | apply O_fieldAddr | apply O_bin | apply O_indexAddr | apply O_len | apply O_un | apply O_store | apply O_alloc | apply O_box | apply O_build | apply O_mapUpdate); (repeat rfl); simp (disch := omega) only [go_sem]; (first | (with_reducible exact cw) | ((with_reducible apply cw); (focus ((try simp only [zp]); exact rfl)); clear cw Cw))) | ((with_reducible apply O_makeMap); (try simp (disch := omega) only [go_sem]); (first | (with_reducible exact cw) | ((with_reducible apply cw); (focus ((try simp only [zp]); exact rfl)); clear cw Cw))) | ((with_reducible first | apply O_callF | apply O_call); (repeat rfl); (try simp only [za]); (refine TPure.go (by (apply hck) <;> first | assumption | omega | exact Eq.trans (get_old (by assumption)) (by assumption)) ?_); (first | (with_reducible exact cw) | ((with_reducible apply cw); (focus ((try simp only [zp]); exact rfl)); clear cw Cw))))); (try ((with_reducible apply eq_id); (focus ((try simp only [zp]); exact rfl)))))
    | ((first | ((with_reducible first | apply WL_if | apply WP_if); (focus rfl)) | ((with_reducible first | apply WL_un | apply WP_un); (focus rfl))); (focus ((try simp only [zp]); exact rfl)))
    | ((with_reducible first | refine WL_nil (hK _ _ ?_) | refine WP_nil (hK _ _ ?_)); clear hK K)
    | ((with_reducible apply WP_pick); (focus rfl); (focus rfl); (focus rfl); (focus ((try simp only [zp]); exact rfl)); (focus ((try simp only [zp]); exact rfl)))
    | ((with_reducible first | refine T_reg_seq fun K hK => ?_ | refine T_reg_end fun K hK => ?_); simp only [zl])
    | ((with_reducible first | refine T_pure_seq ?_ ?_ (fun K hK => ?_) | refine T_pure_end ?_ ?_ (fun K hK => ?_)); (focus kernel_rfl); (focus kernel_rfl); simp only [zl])
    | ((with_reducible first | apply T_cond_seq | apply T_cond); (focus rfl))
    | (intro hg; (first | (simp only [zb] at hg; done) | ((try simp only [zb, eq_self] at hg); (have hh : True := hg); clear hh hg) | ((try simp only [zb] at hg); (try (have hh := hg; simp only [hh]; clear hh)); (try simp only [zg, zq, ne_eq, gt_iff_lt, ge_iff_le] at hg); (try (exfalso; omega)))))
    | with_reducible first | refine T_seq_assoc ?_ | refine T_skip_seq ?_ | refine T_ret_seq ?_ | refine T_exit_seq ?_ | refine T_ret ?_ | refine T_skip ?_ | refine T_exit ?_ | refine T_block_seq fun Kb hKb => ?_ | refine T_block ?_
    | (simp only [TX.inBlock, TX.then, zi, Nat.reduceEqDiff])
    | ((with_reducible first | refine hR _ _ (fun C cc => ?_) | refine hN _ _ (fun C cc => ?_)); simp (disch := omega) only [go_sem]; (with_reducible apply cc); clear cc C; (first | refine Ends.more rfl ?_ | refine Ends.same rfl ?_ | refine Ends.more (by simp only [go_sem, Bool.and_self]) ?_ | refine Ends.same (by simp only [go_sem, Bool.and_self]) ?_); (try simp only [go_sem, Bool.and_self]))
    | (with_reducible apply_assumption -exfalso -symm only [*]))
theorem new_out (c : Cfg) (hf : FewC c) (host : Int) (σ : TS) (hok : OkC c) (hb : ¬ (0 ≤ host ∧ host < c.hosts)) : TPure Try.prog 43 [cfgTV c, .int .i64 host] σ (.tup [.nilp, .int .i64 1]) := by
  have hck := fun τ => check_walk c hf τ
  rw [hok.check] at hck
  refine pure_of [] [.tmp 4, .tmp 5] Try.func43 (by kernel_rfl) rfl (by kernel_rfl) fun X hR hN => ?_
  show Tw _ _ _ _ ([some _, some _] ++ List.replicate 56 none) _
  simp only [List.replicate, List.cons_append, List.nil_append]
  repeat' (first
    | ((first | (with_reducible refine WL_do fun Cw cw => ?_) | ((with_reducible apply WP_do); intro Cw cw)); (focus (first | ((with_reducible first | apply O_move | apply O_assign | apply O_pickV | apply O_extract | apply O_nilCheck); (repeat rfl); (first | (with_reducible exact cw) | ((with_reducible apply cw); (focus ((try simp only [zp]); exact rfl)); clear cw Cw))) | ((with_reducible first | apply O_load | apply O_fieldAddr | apply O_bin | apply O_indexAddr | apply O_len | apply O_un | apply O_store | apply O_alloc | apply O_box | apply O_build | apply O_mapUpdate); (repeat rfl); simp (disch := omega) only [go_sem]; (first | (with_reducible exact cw) | ((with_reducible apply cw); (focus ((try simp only [zp]); exact rfl)); clear cw Cw))) | ((with_reducible apply O_makeMap); (try simp (disch := omega) only [go_sem]); (first | (with_reducible exact cw) | ((with_reducible apply cw); (focus ((try simp only [zp]); exact rfl)); clear cw Cw))) | ((with_reducible first | apply O_callF | apply O_call); (repeat rfl); (try simp only [za]); (refine TPure.go (by (apply hck) <;> first | assumption | omega | exact Eq.trans (get_old (by assumption)) (by assumption)) ?_); (first | (with_reducible exact cw) | ((with_reducible apply cw); (focus ((try simp only [zp]); exact rfl)); clear cw Cw))))); (try ((with_reducible apply eq_id); (focus ((try simp only [zp]); exact rfl)))))
    | ((first | ((with_reducible first | apply WL_if | apply WP_if); (focus rfl)) | ((with_reducible first | apply WL_un | apply WP_un); (focus rfl))); (focus ((try simp only [zp]); exact rfl)))
    | ((with_reducible first | refine WL_nil (hK _ _ ?_) | refine WP_nil (hK _ _ ?_)); clear hK K)
    | ((with_reducible apply WP_pick); (focus rfl); (focus rfl); (focus rfl); (focus ((try simp only [zp]); exact rfl)); (focus ((try simp only [zp]); exact rfl)))
    | ((with_reducible first | refine T_reg_seq fun K hK => ?_ | refine T_reg_end fun K hK => ?_); simp only [zl])
    | ((with_reducible first | refine T_pure_seq ?_ ?_ (fun K hK => ?_) | refine T_pure_end ?_ ?_ (fun K hK => ?_)); (focus kernel_rfl); (focus kernel_rfl); simp only [zl])
    | ((with_reducible first | apply T_cond_seq | apply T_cond); (focus rfl))
    | (intro hg; (first | (simp only [zb] at hg; done) | ((try simp only [zb, eq_self] at hg); (have hh : True := hg); clear hh hg) | ((try simp only [zb] at hg); (try (have hh := hg; simp only [hh]; clear hh)); (try simp only [zg, zq, ne_eq, gt_iff_lt, ge_iff_le] at hg); (try (exfalso; omega)))))
    | with_reducible first | refine T_seq_assoc ?_ | refine T_skip_seq ?_ | refine T_ret_seq ?_ | refine T_exit_seq ?_ | refine T_ret ?_ | refine T_skip ?_ | refine T_exit ?_ | refine T_block_seq fun Kb hKb => ?_ | refine T_block ?_
    | (simp only [TX.inBlock, TX.then, zi, Nat.reduceEqDiff])
    | ((with_reducible first | refine hR _ _ (fun C cc => ?_) | refine hN _ _ (fun C cc => ?_)); simp (disch := omega) only [go_sem]; (with_reducible apply cc); clear cc C; (first | refine Ends.more rfl ?_ | refine Ends.same rfl ?_ | refine Ends.more (by simp only [go_sem, Bool.and_self]) ?_ | refine Ends.same (by simp only [go_sem, Bool.and_self]) ?_); (try simp only [go_sem, Bool.and_self]))
    | (with_reducible apply_assumption -exfalso -symm only [*]))
theorem refnew_bad (c : Cfg) (hf : FewC c) (host : Int) (σ : TS) (hb : (checkS c).2.2 ≠ 0) : TPure Try.prog 50 [cfgTV c, .int .i64 host] σ (.tup [.nilp, .int .i64 (checkS c).2.2]) := by
  have hck := fun τ => refcheck_walk c hf τ
  refine pure_of [] [.tmp 4, .tmp 5] Try.func50 (by kernel_rfl) rfl (by kernel_rfl) fun X hR hN => ?_
  show Tw _ _ _ _ ([some _, some _] ++ List.replicate 69 none) _
  simp only [List.replicate, List.cons_append, List.nil_append]
  repeat' (first
    | ((first | (with_reducible refine WL_do fun Cw cw => ?_) | ((with_reducible apply WP_do); intro Cw cw)); (focus (first | ((with_reducible first | apply O_move | apply O_assign | apply O_pickV | apply O_extract | apply O_nilCheck); (repeat rfl); (first | (with_reducible exact cw) | ((with_reducible apply cw); (focus ((try simp only [zp]); exact rfl)); clear cw Cw))) | ((with_reducible first | apply O_load | apply O_fieldAddr | apply O_bin | apply O_indexAddr | apply O_len | apply O_un | apply O_store | apply O_box | apply O_build); (repeat rfl); simp (disch := omega) only [go_sem]; (first | (with_reducible exact cw) | ((with_reducible apply cw); (focus ((try simp only [zp]); exact rfl)); clear cw Cw))) | ((with_reducible first | apply O_buildSlice | apply O_append); (repeat rfl); (try simp only [zc, zo, Nat.reduceBEq]); simp (disch := omega) only [go_sem]; (first | (with_reducible exact cw) | ((with_reducible apply cw); (focus ((try simp only [zp]); exact rfl)); clear cw Cw))) | ((with_reducible first | apply O_callF | apply O_call); (repeat rfl); (try simp only [za]); (refine TPure.go (by (apply hck) <;> first | assumption | omega | exact Eq.trans (get_old (by assumption)) (by assumption)) ?_); (first | (with_reducible exact cw) | ((with_reducible apply cw); (focus ((try simp only [zp]); exact rfl)); clear cw Cw))))); (try ((with_reducible apply eq_id); (focus ((try simp only [zp]); exact rfl)))))
    | ((first | ((with_reducible first | apply WL_if | apply WP_if); (focus rfl)) | ((with_reducible first | apply WL_un | apply WP_un); (focus rfl))); (focus ((try simp only [zp]); exact rfl)))
    | ((with_reducible first | refine WL_nil (hK _ _ ?_) | refine WP_nil (hK _ _ ?_)); clear hK K)
    | ((with_reducible apply WP_pick); (focus rfl); (focus rfl); (focus rfl); (focus ((try simp only [zp]); exact rfl)); (focus ((try simp only [zp]); exact rfl)))
    | ((with_reducible first | refine T_reg_seq fun K hK => ?_ | refine T_reg_end fun K hK => ?_); simp only [zl])
    | ((with_reducible first | refine T_pure_seq ?_ ?_ (fun K hK => ?_) | refine T_pure_end ?_ ?_ (fun K hK => ?_)); (focus kernel_rfl); (focus kernel_rfl); simp only [zl])
    | ((with_reducible first | apply T_cond_seq | apply T_cond); (focus rfl))
    | (intro hg; (first | (simp only [zb] at hg; done) | ((try simp only [zb, eq_self] at hg); (have hh : True := hg); clear hh hg) | ((try simp only [zb] at hg); (try (have hh := hg; simp only [hh]; clear hh)); (try simp only [zg, zq, ne_eq, gt_iff_lt, ge_iff_le] at hg); (try (exfalso; omega)))))
    | with_reducible first | refine T_seq_assoc ?_ | refine T_skip_seq ?_ | refine T_ret_seq ?_ | refine T_exit_seq ?_ | refine T_ret ?_ | refine T_skip ?_ | refine T_exit ?_ | refine T_block_seq fun Kb hKb => ?_ | refine T_block ?_
    | (simp only [TX.inBlock, TX.then, zi, Nat.reduceEqDiff])
    | ((with_reducible first | refine hR _ _ (fun C cc => ?_) | refine hN _ _ (fun C cc => ?_)); simp (disch := omega) only [go_sem]; (with_reducible apply cc); clear cc C; (first | refine Ends.more rfl ?_ | refine Ends.same rfl ?_ | refine Ends.more (by simp only [go_sem, Bool.and_self]) ?_ | refine Ends.same (by simp only [go_sem, Bool.and_self]) ?_); (try simp only [go_sem, Bool.and_self]))
    | (with_reducible apply_assumption -exfalso -symm only [*]))
theorem refnew_out (c : Cfg) (hf : FewC c) (host : Int) (σ : TS) (hok : OkC c) (hb : ¬ (0 ≤ host ∧ host < c.hosts)) : TPure Try.prog 50 [cfgTV c, .int .i64 host] σ (.tup [.nilp, .int .i64 1]) := by
  have hck := fun τ => refcheck_walk c hf τ
  rw [hok.check] at hck
  refine pure_of [] [.tmp 4, .tmp 5] Try.func50 (by kernel_rfl) rfl (by kernel_rfl) fun X hR hN => ?_
  show Tw _ _ _ _ ([some _, some _] ++ List.replicate 69 none) _
  simp only [List.replicate, List.cons_append, List.nil_append]
  repeat' (first
    | ((first | (with_reducible refine WL_do fun Cw cw => ?_) | ((with_reducible apply WP_do); intro Cw cw)); (focus (first | ((with_reducible first | apply O_move | apply O_assign | apply O_pickV | apply O_extract | apply O_nilCheck); (repeat rfl); (first | (with_reducible exact cw) | ((with_reducible apply cw); (focus ((try simp only [zp]); exact rfl)); clear cw Cw))) | ((with_reducible first | apply O_load | apply O_fieldAddr | apply O_bin | apply O_indexAddr | apply O_len | apply O_un | apply O_store | apply O_box | apply O_build); (repeat rfl); simp (disch := omega) only [go_sem]; (first | (with_reducible exact cw) | ((with_reducible apply cw); (focus ((try simp only [zp]); exact rfl)); clear cw Cw))) | ((with_reducible first | apply O_buildSlice | apply O_append); (repeat rfl); (try simp only [zc, zo, Nat.reduceBEq]); simp (disch := omega) only [go_sem]; (first | (with_reducible exact cw) | ((with_reducible apply cw); (focus ((try simp only [zp]); exact rfl)); clear cw Cw))) | ((with_reducible first | apply O_callF | apply O_call); (repeat rfl); (try simp only [za]); (refine TPure.go (by (apply hck) <;> first | assumption | omega | exact Eq.trans (get_old (by assumption)) (by assumption)) ?_); (first | (with_reducible exact cw) | ((with_reducible apply cw); (focus ((try simp only [zp]); exact rfl)); clear cw Cw))))); (try ((with_reducible apply eq_id); (focus ((try simp only [zp]); exact rfl)))))
    | ((first | ((with_reducible first | apply WL_if | apply WP_if); (focus rfl)) | ((with_reducible first | apply WL_un | apply WP_un); (focus rfl))); (focus ((try simp only [zp]); exact rfl)))
    | ((with_reducible first | refine WL_nil (hK _ _ ?_) | refine WP_nil (hK _ _ ?_)); clear hK K)
    | ((with_reducible apply WP_pick); (focus rfl); (focus rfl); (focus rfl); (focus ((try simp only [zp]); exact rfl)); (focus ((try simp only [zp]); exact rfl)))
    | ((with_reducible first | refine T_reg_seq fun K hK => ?_ | refine T_reg_end fun K hK => ?_); simp only [zl])
    | ((with_reducible first | refine T_pure_seq ?_ ?_ (fun K hK => ?_) | refine T_pure_end ?_ ?_ (fun K hK => ?_)); (focus kernel_rfl); (focus kernel_rfl); simp only [zl])
    | ((with_reducible first | apply T_cond_seq | apply T_cond); (focus rfl))
    | (intro hg; (first | (simp only [zb] at hg; done) | ((try simp only [zb, eq_self] at hg); (have hh : True := hg); clear hh hg) | ((try simp only [zb] at hg); (try (have hh := hg; simp only [hh]; clear hh)); (try simp only [zg, zq, ne_eq, gt_iff_lt, ge_iff_le] at hg); (try (exfalso; omega)))))
    | with_reducible first | refine T_seq_assoc ?_ | refine T_skip_seq ?_ | refine T_ret_seq ?_ | refine T_exit_seq ?_ | refine T_ret ?_ | refine T_skip ?_ | refine T_exit ?_ | refine T_block_seq fun Kb hKb => ?_ | refine T_block ?_
    | (simp only [TX.inBlock, TX.then, zi, Nat.reduceEqDiff])
    | ((with_reducible first | refine hR _ _ (fun C cc => ?_) | refine hN _ _ (fun C cc => ?_)); simp (disch := omega) only [go_sem]; (with_reducible apply cc); clear cc C; (first | refine Ends.more rfl ?_ | refine Ends.same rfl ?_ | refine Ends.more (by simp only [go_sem, Bool.and_self]) ?_ | refine Ends.same (by simp only [go_sem, Bool.and_self]) ?_); (try simp only [go_sem, Bool.and_self]))
    | (with_reducible apply_assumption -exfalso -symm only [*]))

theorem roomOf_len (c : Cfg) (host : Int) : (roomOf c host).length = (portsF c host c.ports.l.length).length := List.length_map _
theorem roomOf_nth {c : Cfg} {host : Int} {k : Nat} (hk : k < (roomOf c host).length) : nth (roomOf c host) k = bxOf (nth (portsF c host c.ports.l.length) k) := nth_map _ (by rw [roomOf_len] at hk; exact hk)
theorem roomOf_pts (c : Cfg) (host : Int) : pts (roomOf c host) = portsF c host c.ports.l.length := by
  unfold pts roomOf
  rw [List.map_map]
  exact List.map_id' _
theorem roomOf_ok {c : Cfg} {host : Int} (hc : c.ok) (hok : OkC c) : ∀ b ∈ roomOf c host, b.ok := by
  intro b hb
  obtain ⟨p, hp, rfl⟩ := List.mem_map.1 hb
  obtain ⟨k, _, hk, rfl, hm⟩ := portsF_mem hp
  obtain ⟨_, hpo, _, v, hv, hhost, hpv, _⟩ := portS_zero (hok.ports k hk)
  obtain ⟨q1, q2, q3, q4, q5, q6, q7, q8, q9, q10⟩ := hc.ports _ (nth_mem hk)
  have ho : (nth c.ports.l k).out = false := by simp [mine] at hm; exact hm.2
  unfold portV at hpv
  split at hpv
  · cases hpv
  split at hpv
  · cases hpv
  split at hpv
  · cases hpv
  split at hpv
  · cases hpv
  refine ⟨by show (nth c.ports.l k).kind = 1 ∨ (nth c.ports.l k).kind = 2; omega, fun _ => by simp [bxOf], ⟨by simp [bxOf], by simp [bxOf]⟩, by simp [bxOf], ?_, q10, q8⟩
  show (nth c.ports.l k).depth ≤ 64
  omega

/-- The marks of a heap behind which things of a room were laid. -/
def labR (lab : Nat → Nat) (n c0 : Nat) (locs : List Nat) : Nat → Nat := fun i => if i < n then lab i else match locs.findIdx? (· == i) with
  | some k => c0 + 1 + k
  | none => c0
theorem findIdx_mono {locs : List Nat} (hm : ∀ j k, j < k → k < locs.length → nth locs j < nth locs k) {k : Nat} (hk : k < locs.length) : locs.findIdx? (· == nth locs k) = some k := by
  rw [List.findIdx?_eq_some_iff_getElem]
  refine ⟨hk, by rw [nth_eq hk]; simp, fun j hj => ?_⟩
  have := hm j k hj hk
  rw [← nth_eq (by omega)]
  simp
  omega
theorem findIdx_low {locs : List Nat} {n i : Nat} (hlo : ∀ k, k < locs.length → n ≤ nth locs k) (hi : i < n) : locs.findIdx? (· == i) = none := by
  rw [List.findIdx?_eq_none_iff]
  intro x hx
  obtain ⟨k, hk, rfl⟩ := List.getElem_of_mem hx
  have := hlo k hk
  rw [nth_eq hk] at this
  simp
  omega
theorem labR_box {lab : Nat → Nat} {n c0 : Nat} {locs : List Nat} (hm : ∀ j k, j < k → k < locs.length → nth locs j < nth locs k) (hlo : ∀ k, k < locs.length → n ≤ nth locs k) {k : Nat} (hk : k < locs.length) : labR lab n c0 locs (nth locs k) = c0 + 1 + k := by
  unfold labR
  rw [if_neg (by have := hlo k hk; omega), findIdx_mono hm hk]
theorem labR_top {lab : Nat → Nat} {n c0 m i : Nat} {locs : List Nat} (hlo : ∀ k, k < locs.length → m ≤ nth locs k) (hi : i < m) (hn : n ≤ i) : labR lab n c0 locs i = c0 := by
  unfold labR
  rw [if_neg (by omega), findIdx_low hlo hi]

theorem room_begin {c : Cfg} {host : Int} (hc : c.ok) (hok : OkC c) {σ τ : TS} {A B : TObj} {offs : List Nat} (lab : Nat → Nat) (c0 : Nat) (hl : offs.length = (portsF c host c.ports.l.length).length)
    (hb : ∀ k, k < offs.length → τ[nth offs k]? = some (.cells (boxCells (nth (portsF c host c.ports.l.length) k)))) (hm : ∀ j k, j < k → k < offs.length → nth offs j < nth offs k) :
    ∃ lab', RoomP (σ ++ (A :: B :: .map (mEnt kI placeTV (entsP (portsF c host c.ports.l.length) (locsO σ.length offs))) (portsF c host c.ports.l.length).length :: .cells [.map (σ.length + 2)] :: τ)) lab' c0 (σ.length + 3) (σ.length + 2) (locsO σ.length offs) (roomOf c host) ∧
      Grow σ lab (σ ++ (A :: B :: .map (mEnt kI placeTV (entsP (portsF c host c.ports.l.length) (locsO σ.length offs))) (portsF c host c.ports.l.length).length :: .cells [.map (σ.length + 2)] :: τ)) lab' (fun _ => False) := by
  have hll : (locsO σ.length offs).length = offs.length := List.length_map _
  have hn : ∀ k, k < offs.length → nth (locsO σ.length offs) k = σ.length + 4 + nth offs k := fun k hk => nth_map _ hk
  have hmono : ∀ j k, j < k → k < (locsO σ.length offs).length → nth (locsO σ.length offs) j < nth (locsO σ.length offs) k := fun j k hj hk => by
    rw [hn j (by omega), hn k (by omega)]
    have := hm j k hj (by omega)
    omega
  have hlo4 : ∀ k, k < (locsO σ.length offs).length → σ.length + 4 ≤ nth (locsO σ.length offs) k := fun k hk => by rw [hn k (by omega)]; omega
  have hlo : ∀ k, k < (locsO σ.length offs).length → σ.length ≤ nth (locsO σ.length offs) k := fun k hk => by have := hlo4 k hk; omega
  refine ⟨labR lab σ.length c0 (locsO σ.length offs), ⟨labR_top hlo4 (by omega) (by omega), by rw [get_app]; rfl, labR_top hlo4 (by omega) (by omega), ?_, by rw [hll, roomOf_len]; exact hl, ?_, roomOf_ok hc hok⟩, ⟨by simp, fun i hi => if_pos hi, fun i hi _ => List.getElem?_append_left hi⟩⟩
  · rw [get_app, roomOf_pts, roomOf_len]; rfl
  · intro k hk
    have hk' : k < offs.length := by rw [roomOf_len] at hk; omega
    rw [roomOf_nth hk]
    refine ⟨labR_box hmono hlo (by omega), ?_⟩
    have hget : (σ ++ (A :: B :: .map (mEnt kI placeTV (entsP (portsF c host c.ports.l.length) (locsO σ.length offs))) (portsF c host c.ports.l.length).length :: .cells [.map (σ.length + 2)] :: τ))[nth (locsO σ.length offs) k]? = some (.cells (boxCells (nth (portsF c host c.ports.l.length) k))) := by
      rw [hn k hk', show σ.length + 4 + nth offs k = σ.length + (nth offs k + 4) by omega, get_app]
      exact hb k hk'
    rw [hget]
    by_cases hkind : (nth (portsF c host c.ports.l.length) k).kind = 1
    · rw [if_pos (by exact hkind), boxCells, if_pos hkind]; rfl
    · rw [if_neg (by exact hkind), boxCells, if_neg hkind]
      exact ⟨.nils, rfl, .inl ⟨rfl, rfl⟩⟩

/-- A room of the program begins. -/
theorem own_new (c : Cfg) (hf : FewC c) (host : Int) (hh : I64 host) (σ : TS) (lab : Nat → Nat) (c0 : Nat) (hok : OkC c) (hhost : 0 ≤ host ∧ host < c.hosts) : TCalls Try.prog 43 [cfgTV c, .int .i64 host] σ fun v σ' =>
    ∃ r lm locs lab', v = .tup [.ptr r 0, .int .i64 0] ∧ RoomP σ' lab' c0 r lm locs (roomOf c host) ∧ Grow σ lab σ' lab' (fun _ => False) := by
  refine (new_walk c hf host hh σ hok hhost).mono fun v σ' q => ?_
  obtain ⟨rfl, τ, offs, rfl, h1, h2, h3⟩ := q
  obtain ⟨lab', h4, h5⟩ := room_begin hf.1 hok (σ := σ) (τ := τ) (A := .cells (cfgC c)) (B := .cells [.int .i64 0, .int .i64 0]) lab c0 h1 h2 h3
  exact ⟨_, _, _, lab', rfl, h4, h5⟩

/- the reference's -/
theorem appP {w : Bool} {σ : TS} {tk : Nat} {ls : List Nat} {l : Nat} (hr : σ[tk]? = some (.right ls.length 1)) (hb : ls.length ≤ 100000) :
    tappend (mkTab Try.prog) w σ 167 167 (.sl (some (tk, ls.length)) ls.length (ls.flatMap ptrC)) (.sl none 1 [.ptr l 0]) = some (.sl (some (tk, ls.length + 1)) (ls.length + 1) ((ls ++ [l]).flatMap ptrC), σ.set tk (.right (ls.length + 1) 1)) := by
  have := app_ownE (w := w) (n := ls.length) (cs := ls.flatMap ptrC) tab167 rfl tab170 rfl rfl (src_sl (σ := σ) (own := none) (cs := [.ptr l 0]) (n := 1) (sz := 1) tab167 rfl rfl) rfl rfl hr (by rw [ptrC_len]; exact (Nat.mul_one _).symm) (by show (ls.length + 1) * 8 ≤ _; omega) (by omega)
  rw [this, List.flatMap_append]
  rfl
theorem appP0 {σ : TS} {l : Nat} :
    tappend (mkTab Try.prog) true σ 167 167 .nils (.sl none 1 [.ptr l 0]) = some (.sl (some (σ.length, 1)) 1 [.ptr l 0], σ ++ [.right 1 1]) := by
  exact app_nil (σ := σ) tab167 rfl tab170 rfl rfl (src_sl (σ := σ) (own := none) (cs := [.ptr l 0]) (n := 1) (sz := 1) tab167 rfl rfl) rfl rfl (by decide) (by decide) (by decide)

def refCells (p : Port) : List TV := portC p ++ [.nils, .int .i64 0, .bool false]
def locsQ (n : Nat) (offs : List Nat) : List Nat := offs.map (n + 2 + ·)
def RVt (n : Nat) (u : TV) (τ : TS) (offs : List Nat) : Prop := (u = .nils ∧ offs = []) ∨ ∃ t, u = .sl (some (n + (t + 2), offs.length)) offs.length ((locsQ n offs).flatMap ptrC) ∧ τ[t]? = some (.right offs.length 1)

theorem refnew_walk (c : Cfg) (hf : FewC c) (host : Int) (hh : I64 host) (σ : TS) (hok : OkC c) (hhost : 0 ≤ host ∧ host < c.hosts) : TCalls Try.prog 50 [cfgTV c, .int .i64 host] σ fun v σ' =>
    v = .tup [.ptr (σ.length + 1) 0, .int .i64 0] ∧ ∃ (u : TV) (τ : TS) (offs : List Nat), σ' = σ ++ (.cells (cfgC c) :: .cells [u] :: τ) ∧ RVt σ.length u τ offs ∧
      offs.length = (portsF c host c.ports.l.length).length ∧ (∀ k, k < offs.length → τ[nth offs k]? = some (.cells (refCells (nth (portsF c host c.ports.l.length) k)))) ∧ ∀ j k, j < k → k < offs.length → nth offs j < nth offs k := by
  have hck := fun τ => refcheck_walk c hf τ
  rw [hok.check] at hck
  have hlp := hf.ports
  refine calls_of [67] [.tmp 4, .tmp 5] Try.func50 (by kernel_rfl) rfl (by kernel_rfl) fun X hR hN => ?_
  show Tw _ _ _ _ ([some _, some _] ++ List.replicate 69 none) _
  simp only [List.replicate, List.cons_append, List.nil_append]
  repeat' (first
    | ((first | (with_reducible refine WL_do fun Cw cw => ?_) | ((with_reducible apply WP_do); intro Cw cw)); (focus (first | ((with_reducible first | apply O_move | apply O_assign | apply O_pickV | apply O_extract | apply O_nilCheck); (repeat rfl); (first | (with_reducible exact cw) | ((with_reducible apply cw); (focus ((try simp only [zp]); exact rfl)); clear cw Cw))) | ((with_reducible first | apply O_load | apply O_fieldAddr | apply O_bin | apply O_indexAddr | apply O_len | apply O_un | apply O_store | apply O_box | apply O_build); (repeat rfl); simp (disch := omega) only [go_sem]; (first | (with_reducible exact cw) | ((with_reducible apply cw); (focus ((try simp only [zp]); exact rfl)); clear cw Cw))) | ((with_reducible first | apply O_buildSlice | apply O_append); (repeat rfl); (try simp only [zc, zo, Nat.reduceBEq]); simp (disch := omega) only [go_sem]; (first | (with_reducible exact cw) | ((with_reducible apply cw); (focus ((try simp only [zp]); exact rfl)); clear cw Cw))) | ((with_reducible first | apply O_callF | apply O_call); (repeat rfl); (try simp only [za]); (refine TPure.go (by (apply hck) <;> first | assumption | omega | exact Eq.trans (get_old (by assumption)) (by assumption)) ?_); (first | (with_reducible exact cw) | ((with_reducible apply cw); (focus ((try simp only [zp]); exact rfl)); clear cw Cw))))); (try ((with_reducible apply eq_id); (focus ((try simp only [zp]); exact rfl)))))
    | ((first | ((with_reducible first | apply WL_if | apply WP_if); (focus rfl)) | ((with_reducible first | apply WL_un | apply WP_un); (focus rfl))); (focus ((try simp only [zp]); exact rfl)))
    | ((with_reducible first | refine WL_nil (hK _ _ ?_) | refine WP_nil (hK _ _ ?_)); clear hK K)
    | ((with_reducible apply WP_pick); (focus rfl); (focus rfl); (focus rfl); (focus ((try simp only [zp]); exact rfl)); (focus ((try simp only [zp]); exact rfl)))
    | ((with_reducible first | refine T_reg_seq fun K hK => ?_ | refine T_reg_end fun K hK => ?_); simp only [zl])
    | ((with_reducible first | refine T_pure_seq ?_ ?_ (fun K hK => ?_) | refine T_pure_end ?_ ?_ (fun K hK => ?_)); (focus kernel_rfl); (focus kernel_rfl); simp only [zl])
    | ((with_reducible first | apply T_cond_seq | apply T_cond); (focus rfl))
    | (intro hg; (first | (simp only [zb] at hg; done) | ((try simp only [zb, eq_self] at hg); (have hh : True := hg); clear hh hg) | ((try simp only [zb] at hg); (try (have hh := hg; simp only [hh]; clear hh)); (try simp only [zg, zq, ne_eq, gt_iff_lt, ge_iff_le] at hg); (try (exfalso; omega)))))
    | with_reducible first | refine T_seq_assoc ?_ | refine T_skip_seq ?_ | refine T_ret_seq ?_ | refine T_exit_seq ?_ | refine T_ret ?_ | refine T_skip ?_ | refine T_exit ?_ | refine T_block_seq fun Kb hKb => ?_ | refine T_block ?_
    | (simp only [TX.inBlock, TX.then, zi, Nat.reduceEqDiff])
    | ((with_reducible first | refine hR _ _ (fun C cc => ?_) | refine hN _ _ (fun C cc => ?_)); simp (disch := omega) only [go_sem]; (with_reducible apply cc); clear cc C)
    | (with_reducible apply_assumption -exfalso -symm only [*]))
  refine T_each (α := Nat × TV × TS × List Nat) (fun (i, u, τ, offs) => [none, some (some (.int .i64 host)), some (some (.ptr σ.length 0)), none, none, none, none, none, none, some (some (.ptr (σ.length + 1) 0)), some (some (.int .i64 i)), none, none, none, none, none, none, none, none, none, none, none, none, none, none, none, none, none, none, none, none, none, none, none, none, none, none, none, none, none, none, none, none, none, none, none, none, none, none, none, none, none, none, none, none, none, none, none, none, none, none, none, none, none, none, none, none, none, none, none, none]) (fun (i, u, τ, offs) => i ≤ c.ports.l.length ∧ RVt σ.length u τ offs ∧ offs.length = (portsF c host i).length ∧ (∀ k, k < offs.length → τ[nth offs k]? = some (.cells (refCells (nth (portsF c host i) k)))) ∧ (∀ j k, j < k → k < offs.length → nth offs j < nth offs k)) (fun (i, u, τ, offs) => c.ports.l.length - i) (fun (i, u, τ, offs) => σ ++ (.cells (cfgC c) :: .cells [u] :: τ)) ?_ ?_
  · refine ⟨(0, .nils, [], []), ⟨rfl, rfl, rfl, rfl, trivial⟩, ?_, rfl⟩
    exact ⟨by omega, .inl ⟨rfl, rfl⟩, rfl, fun k hk => by simp at hk, fun j k hj hk => by simp at hk⟩
  · rintro ⟨i, u, τ, offs⟩ q ⟨hi, hu, hl, hc, hm⟩
    show Tw _ _ _ _ ([q 0, some (.int .i64 host), some (.ptr σ.length 0), q 3, q 4, q 5, q 6, q 7, q 8, some (.ptr (σ.length + 1) 0), some (.int .i64 i), q 11, q 12, q 13, q 14, q 15, q 16, q 17, q 18, q 19, q 20, q 21, q 22, q 23, q 24, q 25, q 26, q 27, q 28, q 29, q 30, q 31, q 32, q 33, q 34, q 35, q 36, q 37, q 38, q 39, q 40, q 41, q 42, q 43, q 44, q 45, q 46, q 47, q 48, q 49, q 50, q 51, q 52, q 53, q 54, q 55, q 56, q 57, q 58, q 59, q 60, q 61, q 62, q 63, q 64, q 65, q 66, q 67, q 68, q 69, q 70]) (σ ++ (.cells (cfgC c) :: .cells [u] :: τ))
    rcases Nat.lt_or_ge i c.ports.l.length with hlt | hge
    · have hst := portsF_step c host hlt
      have hol : offs.length ≤ 1000 := by
        rw [hl, portsF]
        have := List.length_filter_le (mine host) (c.ports.l.take i)
        rw [List.length_take] at this
        omega
      by_cases hmi : mine host (nth c.ports.l i) = true
      · have hmh : (nth c.ports.l i).host = host ∧ (nth c.ports.l i).out = false := by simpa [mine] using hmi
        obtain ⟨hm1, hm2⟩ := hmh
        rw [hmi, if_pos rfl] at hst
        have hfacts : ∀ (τ' : TS), τ'.length = τ.length → (∀ k, k < offs.length → τ'[nth offs k]? = some (.cells (refCells (nth (portsF c host i) k)))) → ∀ (o : List TObj), (∀ k, k < (offs ++ [τ.length]).length → (τ' ++ .cells (refCells (nth c.ports.l i)) :: o)[nth (offs ++ [τ.length]) k]? = some (.cells (refCells (nth (portsF c host (i + 1)) k)))) := by
          intro τ' hτ hc o k hk
          rw [List.length_append, List.length_singleton] at hk
          rw [hst]
          rcases Nat.lt_or_ge k offs.length with hk' | hk'
          · have := hc k hk'
            rw [nth_append_left hk', nth_append_left (by omega), List.getElem?_append_left (lt_of_get this)]
            exact this
          · obtain rfl : k = offs.length := by omega
            rw [nth_snoc, hl, nth_snoc, ← hτ, get_app0]; rfl
        have hmono : ∀ j k, j < k → k < (offs ++ [τ.length]).length → nth (offs ++ [τ.length]) j < nth (offs ++ [τ.length]) k := by
          intro j k hj hk
          rw [List.length_append, List.length_singleton] at hk
          rcases Nat.lt_or_ge k offs.length with hk' | hk'
          · rw [nth_append_left hk', nth_append_left (by omega)]; exact hm j k hj hk'
          · obtain rfl : k = offs.length := by omega
            rw [nth_snoc, nth_append_left hj]
            exact lt_of_get (hc j hj)
        have hlen : (offs ++ [τ.length]).length = (portsF c host (i + 1)).length := by rw [hst, List.length_append, List.length_append, hl]; rfl
        rcases hu with ⟨rfl, rfl⟩ | ⟨t, rfl, ht⟩
        · repeat' (first
            | ((first | (with_reducible first | refine WL_do fun Cw cw => ?_ | refine WE_2 fun Cw cw => ?_) | ((with_reducible apply WE_1); intro Cw cw) | ((with_reducible apply WE_0); (focus rfl); intro Cw cw) | ((with_reducible refine HeldAt_cons ?_ ?_); (focus (with_reducible apply_assumption -exfalso -symm only [*])); (with_reducible refine HeldOp_of fun Cw cw => ?_))); (focus (first | ((with_reducible first | apply O_move | apply O_assign | apply O_pickV | apply O_extract | apply O_nilCheck); (repeat rfl); (first | (with_reducible exact cw) | ((with_reducible apply cw); (try (focus ((repeat (first | ((with_reducible apply keep_drop); (focus rfl)) | ((with_reducible apply keep_keep); (focus rfl)))); (with_reducible exact keep_nil)))); (focus ((try simp only [zp]); exact rfl)); (all_goals clear cw Cw)))) | ((with_reducible first | apply O_load | apply O_fieldAddr | apply O_bin | apply O_indexAddr | apply O_len | apply O_un | apply O_store | apply O_box | apply O_build); (repeat rfl); simp (disch := omega) only [go_sem, ↓appP0]; (first | (with_reducible exact cw) | ((with_reducible apply cw); (try (focus ((repeat (first | ((with_reducible apply keep_drop); (focus rfl)) | ((with_reducible apply keep_keep); (focus rfl)))); (with_reducible exact keep_nil)))); (focus ((try simp only [zp]); exact rfl)); (all_goals clear cw Cw)))) | ((with_reducible first | apply O_buildSlice | apply O_append); (repeat rfl); (try simp only [zc, zo, Nat.reduceBEq]); simp (disch := omega) only [go_sem, ↓appP0]; (first | (with_reducible exact cw) | ((with_reducible apply cw); (try (focus ((repeat (first | ((with_reducible apply keep_drop); (focus rfl)) | ((with_reducible apply keep_keep); (focus rfl)))); (with_reducible exact keep_nil)))); (focus ((try simp only [zp]); exact rfl)); (all_goals clear cw Cw)))))); (try ((with_reducible apply eq_id); (focus ((try simp only [zp]); exact rfl)) ; (try intro Fh hFh))))
            | ((first | ((with_reducible apply WL_if); (focus rfl)) | ((with_reducible apply WL_un); (focus rfl))); (focus ((try simp only [zp]); exact rfl)))
            | ((first | ((with_reducible apply WE_if1); (focus rfl)) | ((with_reducible apply WE_un1); (focus rfl))); (focus ((try simp only [zp]); exact rfl)))
            | ((with_reducible first | refine WL_nil (hK _ _ ?_) | refine WE_nil (hK _ _ ?_)); clear hK K)
            | ((first | ((with_reducible apply WE_if0); (focus rfl); (focus rfl)) | ((with_reducible apply WE_un0); (focus rfl); (focus rfl))); (focus ((try simp only [zp]); exact rfl)))
            | ((first | ((with_reducible apply WE_if2); (focus rfl)) | ((with_reducible apply WE_un2); (focus rfl))); (focus ((repeat (first | ((with_reducible apply keep_drop); (focus rfl)) | ((with_reducible apply keep_keep); (focus rfl)))); (with_reducible exact keep_nil))); (focus ((try simp only [zp]); exact rfl)))
            | ((with_reducible apply WE_pick0); (focus rfl); (focus rfl); (focus rfl); (focus ((try simp only [zp]); exact rfl)); (focus ((try simp only [zp]); exact rfl)))
            | (with_reducible exact HeldAt_nil)
            | ((with_reducible first | refine T_eff_seq (id := 11) [(0, 0), (1, 0), (2, 0), (3, 0), (4, 1), (5, 0), (6, 1), (7, 0), (8, 0), (9, 1), (10, 0), (11, 2), (12, 1), (13, 2), (14, 0), (15, 0), (16, 2)] ?_ ?_ ?_ ?_ (fun K hK => ?_) | refine T_eff_end (id := 11) [(0, 0), (1, 0), (2, 0), (3, 0), (4, 1), (5, 0), (6, 1), (7, 0), (8, 0), (9, 1), (10, 0), (11, 2), (12, 1), (13, 2), (14, 0), (15, 0), (16, 2)] ?_ ?_ ?_ ?_ (fun K hK => ?_)); (focus kernel_rfl); (focus kernel_rfl); (focus kernel_rfl); (focus kernel_rfl); simp only [triples, List.getElem?_toArray, List.getElem?_cons_zero, List.getElem?_cons_succ])
            | ((with_reducible first | refine T_reg_seq fun K hK => ?_ | refine T_reg_end fun K hK => ?_); simp only [zl])
            | ((with_reducible first | apply T_cond_seq | apply T_cond); (focus rfl))
            | (intro hg; (first | (simp only [zb] at hg; done) | ((try simp only [zb, eq_self] at hg); (have hh : True := hg); clear hh hg) | ((try simp only [zb] at hg); (try (have hh := hg; simp only [hh]; clear hh)); (try simp only [zg, zq, ne_eq, gt_iff_lt, ge_iff_le] at hg); (try (exfalso; omega)))))
            | with_reducible first | refine T_seq_assoc ?_ | refine T_skip_seq ?_ | refine T_ret_seq ?_ | refine T_exit_seq ?_ | refine T_ret ?_ | refine T_skip ?_ | refine T_exit ?_ | refine T_block_seq fun Kb hKb => ?_ | refine T_block ?_
            | (simp only [TX.inBlock, TX.then, zi, Nat.reduceEqDiff])
            | ((with_reducible first | refine hR _ _ (fun C cc => ?_) | refine hN _ _ (fun C cc => ?_)); simp (disch := omega) only [go_sem, ↓appP0]; (with_reducible apply cc); clear cc C)
            | (with_reducible apply_assumption -exfalso -symm only [*]))
          all_goals try (exact absurd (hm2.symm.trans (show (nth c.ports.l i).out = true by assumption)) (by decide))
          refine ⟨(i + 1, .sl (some (σ.length + (τ.length + 3), 1)) 1 [.ptr (σ.length + (τ.length + 2)) 0], τ ++ [.cells (refCells (nth c.ports.l i)), .right 1 1], [τ.length]), ?_, ⟨rfl, rfl, rfl, rfl, trivial⟩, ⟨?_, .inr ⟨τ.length + 1, ?_, ?_⟩, hlen, ?_, hmono⟩, rfl⟩
          · dsimp only; omega
          · omega
          · have : locsQ σ.length [τ.length] = [σ.length + (τ.length + 2)] := by simp [locsQ]; omega
            rw [this]; rfl
          · rw [get_app]; rfl
          · have := hfacts τ rfl hc [.right 1 1]
            simp only [List.nil_append] at this
            exact this
        · have happ : ∀ (w : Bool) (l : Nat) (A B : TObj) (ρ : TS), tappend (mkTab Try.prog) w (σ ++ (A :: B :: (τ ++ ρ))) 167 167 (.sl (some (σ.length + (t + 2), offs.length)) offs.length ((locsQ σ.length offs).flatMap ptrC)) (.sl none 1 [.ptr l 0]) =
              some (.sl (some (σ.length + (t + 2), offs.length + 1)) (offs.length + 1) ((locsQ σ.length offs ++ [l]).flatMap ptrC), σ ++ (A :: B :: (τ.set t (.right (offs.length + 1) 1) ++ ρ))) := fun w l A B ρ => by
            have hlq : (locsQ σ.length offs).length = offs.length := List.length_map _
            have hg : (σ ++ (A :: B :: (τ ++ ρ)))[σ.length + (t + 2)]? = some (.right (locsQ σ.length offs).length 1) := by rw [get_app, hlq]; show (τ ++ ρ)[t]? = _; rw [List.getElem?_append_left (lt_of_get ht)]; exact ht
            have := appP (w := w) (l := l) hg (by omega)
            rw [hlq] at this
            rw [this, set_app]
            show some (_, σ ++ (A :: B :: (τ ++ ρ).set t _)) = _
            rw [List.set_append_left _ _ (lt_of_get ht)]
          repeat' (first
            | ((first | (with_reducible first | refine WL_do fun Cw cw => ?_ | refine WE_2 fun Cw cw => ?_) | ((with_reducible apply WE_1); intro Cw cw) | ((with_reducible apply WE_0); (focus rfl); intro Cw cw) | ((with_reducible refine HeldAt_cons ?_ ?_); (focus (with_reducible apply_assumption -exfalso -symm only [*])); (with_reducible refine HeldOp_of fun Cw cw => ?_))); (focus (first | ((with_reducible first | apply O_move | apply O_assign | apply O_pickV | apply O_extract | apply O_nilCheck); (repeat rfl); (first | (with_reducible exact cw) | ((with_reducible apply cw); (try (focus ((repeat (first | ((with_reducible apply keep_drop); (focus rfl)) | ((with_reducible apply keep_keep); (focus rfl)))); (with_reducible exact keep_nil)))); (focus ((try simp only [zp]); exact rfl)); (all_goals clear cw Cw)))) | ((with_reducible first | apply O_load | apply O_fieldAddr | apply O_bin | apply O_indexAddr | apply O_len | apply O_un | apply O_store | apply O_box | apply O_build); (repeat rfl); simp (disch := omega) only [go_sem, ↓happ]; (first | (with_reducible exact cw) | ((with_reducible apply cw); (try (focus ((repeat (first | ((with_reducible apply keep_drop); (focus rfl)) | ((with_reducible apply keep_keep); (focus rfl)))); (with_reducible exact keep_nil)))); (focus ((try simp only [zp]); exact rfl)); (all_goals clear cw Cw)))) | ((with_reducible first | apply O_buildSlice | apply O_append); (repeat rfl); (try simp only [zc, zo, Nat.reduceBEq]); simp (disch := omega) only [go_sem, ↓happ]; (first | (with_reducible exact cw) | ((with_reducible apply cw); (try (focus ((repeat (first | ((with_reducible apply keep_drop); (focus rfl)) | ((with_reducible apply keep_keep); (focus rfl)))); (with_reducible exact keep_nil)))); (focus ((try simp only [zp]); exact rfl)); (all_goals clear cw Cw)))))); (try ((with_reducible apply eq_id); (focus ((try simp only [zp]); exact rfl)) ; (try intro Fh hFh))))
            | ((first | ((with_reducible apply WL_if); (focus rfl)) | ((with_reducible apply WL_un); (focus rfl))); (focus ((try simp only [zp]); exact rfl)))
            | ((first | ((with_reducible apply WE_if1); (focus rfl)) | ((with_reducible apply WE_un1); (focus rfl))); (focus ((try simp only [zp]); exact rfl)))
            | ((with_reducible first | refine WL_nil (hK _ _ ?_) | refine WE_nil (hK _ _ ?_)); clear hK K)
            | ((first | ((with_reducible apply WE_if0); (focus rfl); (focus rfl)) | ((with_reducible apply WE_un0); (focus rfl); (focus rfl))); (focus ((try simp only [zp]); exact rfl)))
            | ((first | ((with_reducible apply WE_if2); (focus rfl)) | ((with_reducible apply WE_un2); (focus rfl))); (focus ((repeat (first | ((with_reducible apply keep_drop); (focus rfl)) | ((with_reducible apply keep_keep); (focus rfl)))); (with_reducible exact keep_nil))); (focus ((try simp only [zp]); exact rfl)))
            | ((with_reducible apply WE_pick0); (focus rfl); (focus rfl); (focus rfl); (focus ((try simp only [zp]); exact rfl)); (focus ((try simp only [zp]); exact rfl)))
            | (with_reducible exact HeldAt_nil)
            | ((with_reducible first | refine T_eff_seq (id := 11) [(0, 0), (1, 0), (2, 0), (3, 0), (4, 1), (5, 0), (6, 1), (7, 0), (8, 0), (9, 1), (10, 0), (11, 2), (12, 1), (13, 2), (14, 0), (15, 0), (16, 2)] ?_ ?_ ?_ ?_ (fun K hK => ?_) | refine T_eff_end (id := 11) [(0, 0), (1, 0), (2, 0), (3, 0), (4, 1), (5, 0), (6, 1), (7, 0), (8, 0), (9, 1), (10, 0), (11, 2), (12, 1), (13, 2), (14, 0), (15, 0), (16, 2)] ?_ ?_ ?_ ?_ (fun K hK => ?_)); (focus kernel_rfl); (focus kernel_rfl); (focus kernel_rfl); (focus kernel_rfl); simp only [triples, List.getElem?_toArray, List.getElem?_cons_zero, List.getElem?_cons_succ])
            | ((with_reducible first | refine T_reg_seq fun K hK => ?_ | refine T_reg_end fun K hK => ?_); simp only [zl])
            | ((with_reducible first | apply T_cond_seq | apply T_cond); (focus rfl))
            | (intro hg; (first | (simp only [zb] at hg; done) | ((try simp only [zb, eq_self] at hg); (have hh : True := hg); clear hh hg) | ((try simp only [zb] at hg); (try (have hh := hg; simp only [hh]; clear hh)); (try simp only [zg, zq, ne_eq, gt_iff_lt, ge_iff_le] at hg); (try (exfalso; omega)))))
            | with_reducible first | refine T_seq_assoc ?_ | refine T_skip_seq ?_ | refine T_ret_seq ?_ | refine T_exit_seq ?_ | refine T_ret ?_ | refine T_skip ?_ | refine T_exit ?_ | refine T_block_seq fun Kb hKb => ?_ | refine T_block ?_
            | (simp only [TX.inBlock, TX.then, zi, Nat.reduceEqDiff])
            | ((with_reducible first | refine hR _ _ (fun C cc => ?_) | refine hN _ _ (fun C cc => ?_)); simp (disch := omega) only [go_sem, ↓happ]; (with_reducible apply cc); clear cc C)
            | (with_reducible apply_assumption -exfalso -symm only [*]))
          all_goals try (exact absurd (hm2.symm.trans (show (nth c.ports.l i).out = true by assumption)) (by decide))
          have hloc : locsQ σ.length (offs ++ [τ.length]) = locsQ σ.length offs ++ [σ.length + (τ.length + 2)] := by simp [locsQ]; omega
          have htl := lt_of_get ht
          refine ⟨(i + 1, .sl (some (σ.length + (t + 2), offs.length + 1)) (offs.length + 1) ((locsQ σ.length offs ++ [σ.length + (τ.length + 2)]).flatMap ptrC), τ.set t (.right (offs.length + 1) 1) ++ [.cells (refCells (nth c.ports.l i))], offs ++ [τ.length]), ?_, ⟨rfl, rfl, rfl, rfl, trivial⟩, ⟨?_, .inr ⟨t, ?_, ?_⟩, hlen, ?_, hmono⟩, rfl⟩
          · dsimp only; omega
          · omega
          · dsimp only
            rw [hloc, List.length_append, List.length_singleton]
          · dsimp only
            rw [List.getElem?_append_left (by rw [List.length_set]; exact htl), List.getElem?_set_self htl, List.length_append, List.length_singleton]
          · exact hfacts (τ.set t (.right (offs.length + 1) 1)) (List.length_set ..) (fun k hk => by
              have := hc k hk
              rw [List.getElem?_set_ne]
              · exact this
              · rintro rfl; rw [ht] at this; cases this) []
      · have hmf : mine host (nth c.ports.l i) = false := by simpa using hmi
        rw [hmf, if_neg (by simp), List.append_nil] at hst
        repeat' (first
          | ((first | (with_reducible refine WL_do fun Cw cw => ?_) | ((with_reducible apply WP_do); intro Cw cw)); (focus (first | ((with_reducible first | apply O_move | apply O_assign | apply O_pickV | apply O_extract | apply O_nilCheck); (repeat rfl); (first | (with_reducible exact cw) | ((with_reducible apply cw); (focus ((try simp only [zp]); exact rfl)); clear cw Cw))) | ((with_reducible first | apply O_load | apply O_fieldAddr | apply O_bin | apply O_indexAddr | apply O_len | apply O_un | apply O_store | apply O_box | apply O_build); (repeat rfl); simp (disch := omega) only [go_sem]; (first | (with_reducible exact cw) | ((with_reducible apply cw); (focus ((try simp only [zp]); exact rfl)); clear cw Cw))) | ((with_reducible first | apply O_buildSlice | apply O_append); (repeat rfl); (try simp only [zc, zo, Nat.reduceBEq]); simp (disch := omega) only [go_sem]; (first | (with_reducible exact cw) | ((with_reducible apply cw); (focus ((try simp only [zp]); exact rfl)); clear cw Cw))))); (try ((with_reducible apply eq_id); (focus ((try simp only [zp]); exact rfl)))))
          | ((first | ((with_reducible first | apply WL_if | apply WP_if); (focus rfl)) | ((with_reducible first | apply WL_un | apply WP_un); (focus rfl))); (focus ((try simp only [zp]); exact rfl)))
          | ((with_reducible first | refine WL_nil (hK _ _ ?_) | refine WP_nil (hK _ _ ?_)); clear hK K)
          | ((with_reducible apply WP_pick); (focus rfl); (focus rfl); (focus rfl); (focus ((try simp only [zp]); exact rfl)); (focus ((try simp only [zp]); exact rfl)))
          | ((with_reducible first | refine T_reg_seq fun K hK => ?_ | refine T_reg_end fun K hK => ?_); simp only [zl])
          | ((with_reducible first | refine T_pure_seq ?_ ?_ (fun K hK => ?_) | refine T_pure_end ?_ ?_ (fun K hK => ?_)); (focus kernel_rfl); (focus kernel_rfl); simp only [zl])
          | ((with_reducible first | apply T_cond_seq | apply T_cond); (focus rfl))
          | (intro hg; (first | (simp only [zb] at hg; done) | ((try simp only [zb, eq_self] at hg); (have hh : True := hg); clear hh hg) | ((try simp only [zb] at hg); (try (have hh := hg; simp only [hh]; clear hh)); (try simp only [zg, zq, ne_eq, gt_iff_lt, ge_iff_le] at hg); (try (exfalso; omega)))))
          | with_reducible first | refine T_seq_assoc ?_ | refine T_skip_seq ?_ | refine T_ret_seq ?_ | refine T_exit_seq ?_ | refine T_ret ?_ | refine T_skip ?_ | refine T_exit ?_ | refine T_block_seq fun Kb hKb => ?_ | refine T_block ?_
          | (simp only [TX.inBlock, TX.then, zi, Nat.reduceEqDiff])
          | ((with_reducible first | refine hR _ _ (fun C cc => ?_) | refine hN _ _ (fun C cc => ?_)); simp (disch := omega) only [go_sem]; (with_reducible apply cc); clear cc C)
          | (with_reducible apply_assumption -exfalso -symm only [*]))
        all_goals try (exact absurd (show mine host (nth c.ports.l i) = true by
          rw [mine, show (nth c.ports.l i).host = host by assumption, show (nth c.ports.l i).out = false by assumption]; simp) hmi)
        all_goals
          refine ⟨(i + 1, u, τ, offs), ?_, ⟨rfl, rfl, rfl, rfl, trivial⟩, ⟨?_, hu, ?_, ?_, hm⟩, rfl⟩
          · dsimp only; omega
          · omega
          · dsimp only; rw [hst]; exact hl
          · dsimp only; rw [hst]; exact hc
    · obtain rfl : i = c.ports.l.length := by omega
      repeat' (first
        | ((first | (with_reducible refine WL_do fun Cw cw => ?_) | ((with_reducible apply WP_do); intro Cw cw)); (focus (first | ((with_reducible first | apply O_move | apply O_assign | apply O_pickV | apply O_extract | apply O_nilCheck); (repeat rfl); (first | (with_reducible exact cw) | ((with_reducible apply cw); (focus ((try simp only [zp]); exact rfl)); clear cw Cw))) | ((with_reducible first | apply O_load | apply O_fieldAddr | apply O_bin | apply O_indexAddr | apply O_len | apply O_un | apply O_store | apply O_box | apply O_build); (repeat rfl); simp (disch := omega) only [go_sem]; (first | (with_reducible exact cw) | ((with_reducible apply cw); (focus ((try simp only [zp]); exact rfl)); clear cw Cw))) | ((with_reducible first | apply O_buildSlice | apply O_append); (repeat rfl); (try simp only [zc, zo, Nat.reduceBEq]); simp (disch := omega) only [go_sem]; (first | (with_reducible exact cw) | ((with_reducible apply cw); (focus ((try simp only [zp]); exact rfl)); clear cw Cw))))); (try ((with_reducible apply eq_id); (focus ((try simp only [zp]); exact rfl)))))
        | ((first | ((with_reducible first | apply WL_if | apply WP_if); (focus rfl)) | ((with_reducible first | apply WL_un | apply WP_un); (focus rfl))); (focus ((try simp only [zp]); exact rfl)))
        | ((with_reducible first | refine WL_nil (hK _ _ ?_) | refine WP_nil (hK _ _ ?_)); clear hK K)
        | ((with_reducible apply WP_pick); (focus rfl); (focus rfl); (focus rfl); (focus ((try simp only [zp]); exact rfl)); (focus ((try simp only [zp]); exact rfl)))
        | ((with_reducible first | refine T_reg_seq fun K hK => ?_ | refine T_reg_end fun K hK => ?_); simp only [zl])
        | ((with_reducible first | refine T_pure_seq ?_ ?_ (fun K hK => ?_) | refine T_pure_end ?_ ?_ (fun K hK => ?_)); (focus kernel_rfl); (focus kernel_rfl); simp only [zl])
        | ((with_reducible first | apply T_cond_seq | apply T_cond); (focus rfl))
        | (intro hg; (first | (simp only [zb] at hg; done) | ((try simp only [zb, eq_self] at hg); (have hh : True := hg); clear hh hg) | ((try simp only [zb] at hg); (try (have hh := hg; simp only [hh]; clear hh)); (try simp only [zg, zq, ne_eq, gt_iff_lt, ge_iff_le] at hg); (try (exfalso; omega)))))
        | with_reducible first | refine T_seq_assoc ?_ | refine T_skip_seq ?_ | refine T_ret_seq ?_ | refine T_exit_seq ?_ | refine T_ret ?_ | refine T_skip ?_ | refine T_exit ?_ | refine T_block_seq fun Kb hKb => ?_ | refine T_block ?_
        | (simp only [TX.inBlock, TX.then, zi, Nat.reduceEqDiff])
        | ((with_reducible first | refine hR _ _ (fun C cc => ?_) | refine hN _ _ (fun C cc => ?_)); simp (disch := omega) only [go_sem]; (with_reducible apply cc); clear cc C)
        | (with_reducible apply_assumption -exfalso -symm only [*]))
      exact ⟨by first | rfl | trivial, u, τ, offs, rfl, hu, hl, hc, hm⟩
end Go.Proofs.Ytgkcackpffimmaa
