/- Both rooms side by side. -/
import Derived.Test.YtgkcackpffimmaaP9
set_option linter.unusedVariables false
set_option linter.unusedSimpArgs false
set_option maxRecDepth 10000
set_option maxHeartbeats 4000000
namespace Go.Proofs.Ytgkcackpffimmaa
open Go.TM

theorem refroom_begin {c : Cfg} {host : Int} (hc : c.ok) (hok : OkC c) {σ τ : TS} {A : TObj} {u : TV} {offs : List Nat} (lab : Nat → Nat) (c0 : Nat) (hu : RVt σ.length u τ offs) (hl : offs.length = (portsF c host c.ports.l.length).length)
    (hb : ∀ k, k < offs.length → τ[nth offs k]? = some (.cells (refCells (nth (portsF c host c.ports.l.length) k)))) (hm : ∀ j k, j < k → k < offs.length → nth offs j < nth offs k) :
    ∃ lab', RoomR (σ ++ (A :: .cells [u] :: τ)) lab' c0 (σ.length + 1) u (locsQ σ.length offs) (roomOf c host) ∧ Grow σ lab (σ ++ (A :: .cells [u] :: τ)) lab' (fun _ => False) := by
  have hll : (locsQ σ.length offs).length = offs.length := List.length_map _
  have hn : ∀ k, k < offs.length → nth (locsQ σ.length offs) k = σ.length + 2 + nth offs k := fun k hk => nth_map _ hk
  have hmono : ∀ j k, j < k → k < (locsQ σ.length offs).length → nth (locsQ σ.length offs) j < nth (locsQ σ.length offs) k := fun j k hj hk => by
    rw [hn j (by omega), hn k (by omega)]
    have := hm j k hj (by omega)
    omega
  have hlo2 : ∀ k, k < (locsQ σ.length offs).length → σ.length + 2 ≤ nth (locsQ σ.length offs) k := fun k hk => by rw [hn k (by omega)]; omega
  have hlo : ∀ k, k < (locsQ σ.length offs).length → σ.length ≤ nth (locsQ σ.length offs) k := fun k hk => by have := hlo2 k hk; omega
  refine ⟨labR lab σ.length c0 (locsQ σ.length offs), ⟨labR_top hlo2 (by omega) (by omega), by rw [get_app]; rfl, ?_, by rw [hll, roomOf_len]; exact hl, ?_, roomOf_ok hc hok⟩, ⟨by simp, fun i hi => if_pos hi, fun i hi _ => List.getElem?_append_left hi⟩⟩
  · rcases hu with ⟨rfl, rfl⟩ | ⟨t, rfl, _⟩
    · exact .inl ⟨rfl, rfl⟩
    · exact .inr ⟨_, by rw [hll]⟩
  · intro k hk
    have hk' : k < offs.length := by rw [roomOf_len] at hk; omega
    rw [roomOf_nth hk]
    refine ⟨labR_box hmono hlo (by omega), .nils, ?_, ?_⟩
    · rw [hn k hk', show σ.length + 2 + nth offs k = σ.length + (nth offs k + 2) by omega, get_app]
      exact hb k hk'
    · split
      · rfl
      · exact .inl ⟨rfl, rfl⟩

theorem ref_new (c : Cfg) (hf : FewC c) (host : Int) (hh : I64 host) (σ : TS) (lab : Nat → Nat) (c0 : Nat) (hok : OkC c) (hhost : 0 ≤ host ∧ host < c.hosts) : TCalls Try.prog 50 [cfgTV c, .int .i64 host] σ fun v σ' =>
    ∃ r u locs lab', v = .tup [.ptr r 0, .int .i64 0] ∧ RoomR σ' lab' c0 r u locs (roomOf c host) ∧ Grow σ lab σ' lab' (fun _ => False) := by
  refine (refnew_walk c hf host hh σ hok hhost).mono fun v σ' q => ?_
  obtain ⟨rfl, u, τ, offs, rfl, h0, h1, h2, h3⟩ := q
  obtain ⟨lab', h4, h5⟩ := refroom_begin hf.1 hok (σ := σ) (τ := τ) (A := .cells (cfgC c)) lab c0 h0 h1 h2 h3
  exact ⟨_, _, _, lab', rfl, h4, h5⟩

structure Opn where
  ask : Int
  now : Int
  port : Int
  data : List UInt8
deriving Inhabited
abbrev opC (o : Opn) : List TV := [.int .i64 o.ask, .int .i64 o.now, .int .i64 o.port, .str (B o.data)]
attribute [go_sem] opC
def stepR (o : Opn) (bs : List Bx) : List Bx :=
  if o.ask = 0 then (putR o.now o.port o.data bs).1 else if o.ask = 1 then bs else if o.ask = 2 then (nextR o.port bs).1 else clearR o.port bs
theorem putR_len (now port : Int) (s : List UInt8) (bs : List Bx) : (putR now port s bs).1.length = bs.length := by unfold putR; (repeat' split) <;> simp
theorem nextR_len (port : Int) (bs : List Bx) : (nextR port bs).1.length = bs.length := by unfold nextR; split <;> simp
theorem stepR_len (o : Opn) (bs : List Bx) : (stepR o bs).length = bs.length := by
  unfold stepR
  (repeat' split)
  · exact putR_len _ _ _ _
  · rfl
  · exact nextR_len _ _
  · simp [clearR]

/-- Both rooms in one heap, with the same boxes. -/
structure Two (σ : TS) (lab : Nat → Nat) (c r lm : Nat) (locs : List Nat) (d x : Nat) (v : TV) (locs2 : List Nat) (bs : List Bx) : Prop where
  p : RoomP σ lab c r lm locs bs
  q : RoomR σ lab d x v locs2 bs
  lt : c + bs.length < d

section
variable {σ : TS} {lab : Nat → Nat} {c r lm d x : Nat} {v : TV} {locs locs2 : List Nat} {bs : List Bx} (h : Two σ lab c r lm locs d x v locs2 bs) (hlen : bs.length ≤ 1000000)
include h
theorem two_tail (_hl : bs.length ≤ 1000000) (ρ : TS) : Two (σ ++ ρ) (labX lab σ.length (d + bs.length + 1)) c r lm locs d x v locs2 bs :=
  ⟨h.p.grow (Grow.tail ρ (fun _ => False) _) (fun _ _ _ e => e), h.q.grow (Grow.tail ρ (fun _ => False) _) (fun _ _ _ e => e), h.lt⟩
include hlen

theorem both_walk (o : Opn) (hD : o.data.length ≤ 9223372036854775807) : TCalls Try.prog 51 [.ptr r 0, .ptr x 0, .agg (opC o)] σ fun u σ' => u = .bool true ∧ (∃ lab', Two σ' lab' c r lm locs d x v locs2 (stepR o bs) ∧ Grow σ lab σ' lab' (fun n => c ≤ n)) := by
  have hG := Grow.tail (σ := σ) (lab := lab) [.cells (opC o)] (fun n => c ≤ n) (d + bs.length + 1)
  have hlt := h.lt
  have hmark : labX lab σ.length (d + bs.length + 1) σ.length = d + bs.length + 1 := labX_new (Nat.le_refl _)
  have hget : (σ ++ [TObj.cells (opC o)])[σ.length]? = some (.cells (opC o)) := by simp
  have hT := two_tail h hlen [.cells (opC o)]
  by_cases h0 : o.ask = 0
  · have hs : stepR o bs = (putR o.now o.port o.data bs).1 := if_pos h0
    have hl0 := putR_len o.now o.port o.data bs
    rw [hs]
    refine calls_of [] [.tmp 6] Try.func51 (by kernel_rfl) rfl (by kernel_rfl) fun X hR hN => ?_
    show Tw _ _ _ _ ([some _, some _, some _] ++ List.replicate 111 none) _
    simp only [List.replicate, List.cons_append, List.nil_append]
    repeat' (first
      | ((first | (with_reducible first | refine WL_do fun Cw cw => ?_ | refine WE_2 fun Cw cw => ?_) | ((with_reducible apply WE_1); intro Cw cw) | ((with_reducible apply WE_0); (focus rfl); intro Cw cw) | ((with_reducible refine HeldAt_cons ?_ ?_); (focus (with_reducible apply_assumption -exfalso -symm only [*])); (with_reducible refine HeldOp_of fun Cw cw => ?_))); (focus (first | ((with_reducible first | apply O_move | apply O_assign | apply O_pickV | apply O_extract); (repeat rfl); (first | (with_reducible exact cw) | ((with_reducible apply cw); (try (focus ((repeat (first | ((with_reducible apply keep_drop); (focus rfl)) | ((with_reducible apply keep_keep); (focus rfl)))); (with_reducible exact keep_nil)))); (focus ((try simp only [zp]); exact rfl)); (all_goals clear cw Cw)))) | ((with_reducible first | apply O_load | apply O_fieldAddr | apply O_bin | apply O_box); (repeat rfl); simp (disch := omega) only [go_sem]; (first | (with_reducible exact cw) | ((with_reducible apply cw); (try (focus ((repeat (first | ((with_reducible apply keep_drop); (focus rfl)) | ((with_reducible apply keep_keep); (focus rfl)))); (with_reducible exact keep_nil)))); (focus ((try simp only [zp]); exact rfl)); (all_goals clear cw Cw)))))); (try ((with_reducible apply eq_id); (focus ((try simp only [zp]); exact rfl)) ; (try intro Fh hFh))))
      | ((first | ((with_reducible apply WL_if); (focus rfl)) | ((with_reducible apply WL_un); (focus rfl))); (focus ((try simp only [zp]); exact rfl)))
      | ((first | ((with_reducible apply WE_if1); (focus rfl)) | ((with_reducible apply WE_un1); (focus rfl))); (focus ((try simp only [zp]); exact rfl)))
      | ((with_reducible first | refine WL_nil (hK _ _ ?_) | refine WE_nil (hK _ _ ?_)); clear hK K)
      | ((first | ((with_reducible apply WE_if0); (focus rfl); (focus rfl)) | ((with_reducible apply WE_un0); (focus rfl); (focus rfl))); (focus ((try simp only [zp]); exact rfl)))
      | ((first | ((with_reducible apply WE_if2); (focus rfl)) | ((with_reducible apply WE_un2); (focus rfl))); (focus ((repeat (first | ((with_reducible apply keep_drop); (focus rfl)) | ((with_reducible apply keep_keep); (focus rfl)))); (with_reducible exact keep_nil))); (focus ((try simp only [zp]); exact rfl)))
      | ((with_reducible apply WE_pick0); (focus rfl); (focus rfl); (focus rfl); (focus ((try simp only [zp]); exact rfl)); (focus ((try simp only [zp]); exact rfl)))
      | (with_reducible exact HeldAt_nil)
      | ((with_reducible first | refine T_eff_seq (id := 3) [(0, 0), (1, 0), (2, 1), (3, 0), (4, 1), (5, 0), (6, 1), (8, 0), (9, 0), (10, 1), (11, 0), (12, 1), (13, 0), (14, 1), (7, 2), (15, 2), (16, 0), (17, 0)] ?_ ?_ ?_ ?_ (fun K hK => ?_) | refine T_eff_end (id := 3) [(0, 0), (1, 0), (2, 1), (3, 0), (4, 1), (5, 0), (6, 1), (8, 0), (9, 0), (10, 1), (11, 0), (12, 1), (13, 0), (14, 1), (7, 2), (15, 2), (16, 0), (17, 0)] ?_ ?_ ?_ ?_ (fun K hK => ?_)); (focus kernel_rfl); (focus kernel_rfl); (focus kernel_rfl); (focus kernel_rfl); simp only [triples, List.getElem?_toArray, List.getElem?_cons_zero, List.getElem?_cons_succ])
      | ((with_reducible first | refine T_reg_seq fun K hK => ?_ | refine T_reg_end fun K hK => ?_); simp only [zl])
      | ((with_reducible first | apply T_cond_seq | apply T_cond); (focus rfl))
      | (intro hg; (first | (simp only [zb] at hg; done) | ((try simp only [zb, eq_self] at hg); (have hh : True := hg); clear hh hg) | ((try simp only [zb] at hg); (try (have hh := hg; simp only [hh]; clear hh)); (try simp only [zg, zq, ne_eq, gt_iff_lt, ge_iff_le] at hg); (try (exfalso; omega)))))
      | with_reducible first | refine T_seq_assoc ?_ | refine T_skip_seq ?_ | refine T_ret_seq ?_ | refine T_exit_seq ?_ | refine T_ret ?_ | refine T_skip ?_ | refine T_exit ?_ | refine T_block_seq fun Kb hKb => ?_ | refine T_block ?_
      | (simp only [TX.inBlock, TX.then, zi, Nat.reduceEqDiff])
      | ((with_reducible first | refine hR _ _ (fun C cc => ?_) | refine hN _ _ (fun C cc => ?_)); simp (disch := omega) only [go_sem]; (with_reducible apply cc); clear cc C)
      | (with_reducible apply_assumption -exfalso -symm only [*]))
    refine WE_2 fun Cw cw => ?_
    (with_reducible first | apply O_callF | apply O_call); (repeat rfl); (try simp only [List.nil_append, List.append_nil, List.cons_append])
    refine (put_walk hT.p o.now o.port o.data).mono ?_
    rintro u1 τ1 ⟨rfl, lab1, hp1, hg1⟩
    have hq1 := hT.q.grow hg1 (fun n h1 h2 => by omega)
    have hc1 := hg1.get hget (by rw [hmark]; omega)
    have hm1 := (hg1.mark hget).trans hmark
    (with_reducible apply cw); (focus ((repeat (first | ((with_reducible apply keep_drop); (focus rfl)) | ((with_reducible apply keep_keep); (focus rfl)))); (with_reducible exact keep_nil))); (focus ((try simp only [tput, List.set_cons_zero, List.set_cons_succ]); exact rfl)); (all_goals clear cw Cw)
    · repeat' (first
        | ((first | (with_reducible first | refine WL_do fun Cw cw => ?_ | refine WE_2 fun Cw cw => ?_) | ((with_reducible apply WE_1); intro Cw cw) | ((with_reducible apply WE_0); (focus rfl); intro Cw cw) | ((with_reducible refine HeldAt_cons ?_ ?_); (focus (with_reducible apply_assumption -exfalso -symm only [*])); (with_reducible refine HeldOp_of fun Cw cw => ?_))); (focus (first | ((with_reducible first | apply O_move | apply O_assign | apply O_pickV | apply O_extract); (repeat rfl); (first | (with_reducible exact cw) | ((with_reducible apply cw); (try (focus ((repeat (first | ((with_reducible apply keep_drop); (focus rfl)) | ((with_reducible apply keep_keep); (focus rfl)))); (with_reducible exact keep_nil)))); (focus ((try simp only [zp]); exact rfl)); (all_goals clear cw Cw)))) | ((with_reducible first | apply O_load | apply O_fieldAddr | apply O_bin | apply O_box); (repeat rfl); simp (disch := omega) only [go_sem, hc1]; (first | (with_reducible exact cw) | ((with_reducible apply cw); (try (focus ((repeat (first | ((with_reducible apply keep_drop); (focus rfl)) | ((with_reducible apply keep_keep); (focus rfl)))); (with_reducible exact keep_nil)))); (focus ((try simp only [zp]); exact rfl)); (all_goals clear cw Cw)))))); (try ((with_reducible apply eq_id); (focus ((try simp only [zp]); exact rfl)) ; (try intro Fh hFh))))
        | ((first | ((with_reducible apply WL_if); (focus rfl)) | ((with_reducible apply WL_un); (focus rfl))); (focus ((try simp only [zp]); exact rfl)))
        | ((first | ((with_reducible apply WE_if1); (focus rfl)) | ((with_reducible apply WE_un1); (focus rfl))); (focus ((try simp only [zp]); exact rfl)))
        | ((with_reducible first | refine WL_nil (hK _ _ ?_) | refine WE_nil (hK _ _ ?_)); clear hK K)
        | ((first | ((with_reducible apply WE_if0); (focus rfl); (focus rfl)) | ((with_reducible apply WE_un0); (focus rfl); (focus rfl))); (focus ((try simp only [zp]); exact rfl)))
        | ((first | ((with_reducible apply WE_if2); (focus rfl)) | ((with_reducible apply WE_un2); (focus rfl))); (focus ((repeat (first | ((with_reducible apply keep_drop); (focus rfl)) | ((with_reducible apply keep_keep); (focus rfl)))); (with_reducible exact keep_nil))); (focus ((try simp only [zp]); exact rfl)))
        | ((with_reducible apply WE_pick0); (focus rfl); (focus rfl); (focus rfl); (focus ((try simp only [zp]); exact rfl)); (focus ((try simp only [zp]); exact rfl)))
        | (with_reducible exact HeldAt_nil)
        | ((with_reducible first | refine T_eff_seq (id := 3) [(0, 0), (1, 0), (2, 1), (3, 0), (4, 1), (5, 0), (6, 1), (8, 0), (9, 0), (10, 1), (11, 0), (12, 1), (13, 0), (14, 1), (7, 2), (15, 2), (16, 0), (17, 0)] ?_ ?_ ?_ ?_ (fun K hK => ?_) | refine T_eff_end (id := 3) [(0, 0), (1, 0), (2, 1), (3, 0), (4, 1), (5, 0), (6, 1), (8, 0), (9, 0), (10, 1), (11, 0), (12, 1), (13, 0), (14, 1), (7, 2), (15, 2), (16, 0), (17, 0)] ?_ ?_ ?_ ?_ (fun K hK => ?_)); (focus kernel_rfl); (focus kernel_rfl); (focus kernel_rfl); (focus kernel_rfl); simp only [triples, List.getElem?_toArray, List.getElem?_cons_zero, List.getElem?_cons_succ])
        | ((with_reducible first | refine T_reg_seq fun K hK => ?_ | refine T_reg_end fun K hK => ?_); simp only [zl])
        | ((with_reducible first | apply T_cond_seq | apply T_cond); (focus rfl))
        | (intro hg; (first | (simp only [zb] at hg; done) | ((try simp only [zb, eq_self] at hg); (have hh : True := hg); clear hh hg) | ((try simp only [zb] at hg); (try (have hh := hg; simp only [hh]; clear hh)); (try simp only [zg, zq, ne_eq, gt_iff_lt, ge_iff_le] at hg); (try (exfalso; omega)))))
        | with_reducible first | refine T_seq_assoc ?_ | refine T_skip_seq ?_ | refine T_ret_seq ?_ | refine T_exit_seq ?_ | refine T_ret ?_ | refine T_skip ?_ | refine T_exit ?_ | refine T_block_seq fun Kb hKb => ?_ | refine T_block ?_
        | (simp only [TX.inBlock, TX.then, zi, Nat.reduceEqDiff])
        | ((with_reducible first | refine hR _ _ (fun C cc => ?_) | refine hN _ _ (fun C cc => ?_)); simp (disch := omega) only [go_sem, hc1]; (with_reducible apply cc); clear cc C)
        | (with_reducible apply_assumption -exfalso -symm only [*]))
    repeat' (first
      | ((first | (with_reducible first | refine WL_do fun Cw cw => ?_ | refine WE_2 fun Cw cw => ?_) | ((with_reducible apply WE_1); intro Cw cw) | ((with_reducible apply WE_0); (focus rfl); intro Cw cw) | ((with_reducible refine HeldAt_cons ?_ ?_); (focus (with_reducible apply_assumption -exfalso -symm only [*])); (with_reducible refine HeldOp_of fun Cw cw => ?_))); (focus (first | ((with_reducible first | apply O_move | apply O_assign | apply O_pickV | apply O_extract); (repeat rfl); (first | (with_reducible exact cw) | ((with_reducible apply cw); (try (focus ((repeat (first | ((with_reducible apply keep_drop); (focus rfl)) | ((with_reducible apply keep_keep); (focus rfl)))); (with_reducible exact keep_nil)))); (focus ((try simp only [zp]); exact rfl)); (all_goals clear cw Cw)))) | ((with_reducible first | apply O_load | apply O_fieldAddr | apply O_bin | apply O_box); (repeat rfl); simp (disch := omega) only [go_sem, hc1]; (first | (with_reducible exact cw) | ((with_reducible apply cw); (try (focus ((repeat (first | ((with_reducible apply keep_drop); (focus rfl)) | ((with_reducible apply keep_keep); (focus rfl)))); (with_reducible exact keep_nil)))); (focus ((try simp only [zp]); exact rfl)); (all_goals clear cw Cw)))))); (try ((with_reducible apply eq_id); (focus ((try simp only [zp]); exact rfl)) ; (try intro Fh hFh))))
      | ((first | ((with_reducible apply WL_if); (focus rfl)) | ((with_reducible apply WL_un); (focus rfl))); (focus ((try simp only [zp]); exact rfl)))
      | ((first | ((with_reducible apply WE_if1); (focus rfl)) | ((with_reducible apply WE_un1); (focus rfl))); (focus ((try simp only [zp]); exact rfl)))
      | ((with_reducible first | refine WL_nil (hK _ _ ?_) | refine WE_nil (hK _ _ ?_)); clear hK K)
      | ((first | ((with_reducible apply WE_if0); (focus rfl); (focus rfl)) | ((with_reducible apply WE_un0); (focus rfl); (focus rfl))); (focus ((try simp only [zp]); exact rfl)))
      | ((first | ((with_reducible apply WE_if2); (focus rfl)) | ((with_reducible apply WE_un2); (focus rfl))); (focus ((repeat (first | ((with_reducible apply keep_drop); (focus rfl)) | ((with_reducible apply keep_keep); (focus rfl)))); (with_reducible exact keep_nil))); (focus ((try simp only [zp]); exact rfl)))
      | ((with_reducible apply WE_pick0); (focus rfl); (focus rfl); (focus rfl); (focus ((try simp only [zp]); exact rfl)); (focus ((try simp only [zp]); exact rfl)))
      | (with_reducible exact HeldAt_nil)
      | ((with_reducible first | refine T_eff_seq (id := 3) [(0, 0), (1, 0), (2, 1), (3, 0), (4, 1), (5, 0), (6, 1), (8, 0), (9, 0), (10, 1), (11, 0), (12, 1), (13, 0), (14, 1), (7, 2), (15, 2), (16, 0), (17, 0)] ?_ ?_ ?_ ?_ (fun K hK => ?_) | refine T_eff_end (id := 3) [(0, 0), (1, 0), (2, 1), (3, 0), (4, 1), (5, 0), (6, 1), (8, 0), (9, 0), (10, 1), (11, 0), (12, 1), (13, 0), (14, 1), (7, 2), (15, 2), (16, 0), (17, 0)] ?_ ?_ ?_ ?_ (fun K hK => ?_)); (focus kernel_rfl); (focus kernel_rfl); (focus kernel_rfl); (focus kernel_rfl); simp only [triples, List.getElem?_toArray, List.getElem?_cons_zero, List.getElem?_cons_succ])
      | ((with_reducible first | refine T_reg_seq fun K hK => ?_ | refine T_reg_end fun K hK => ?_); simp only [zl])
      | ((with_reducible first | apply T_cond_seq | apply T_cond); (focus rfl))
      | (intro hg; (first | (simp only [zb] at hg; done) | ((try simp only [zb, eq_self] at hg); (have hh : True := hg); clear hh hg) | ((try simp only [zb] at hg); (try (have hh := hg; simp only [hh]; clear hh)); (try simp only [zg, zq, ne_eq, gt_iff_lt, ge_iff_le] at hg); (try (exfalso; omega)))))
      | with_reducible first | refine T_seq_assoc ?_ | refine T_skip_seq ?_ | refine T_ret_seq ?_ | refine T_exit_seq ?_ | refine T_ret ?_ | refine T_skip ?_ | refine T_exit ?_ | refine T_block_seq fun Kb hKb => ?_ | refine T_block ?_
      | (simp only [TX.inBlock, TX.then, zi, Nat.reduceEqDiff])
      | ((with_reducible first | refine hR _ _ (fun C cc => ?_) | refine hN _ _ (fun C cc => ?_)); simp (disch := omega) only [go_sem, hc1]; (with_reducible apply cc); clear cc C)
      | (with_reducible apply_assumption -exfalso -symm only [*]))
    refine WE_2 fun Cw cw => ?_
    (with_reducible first | apply O_callF | apply O_call); (repeat rfl); (try simp only [List.nil_append, List.append_nil, List.cons_append])
    refine (refput_walk hq1 o.now o.port o.data hlen).mono ?_
    rintro u2 τ2 ⟨rfl, lab2, hq2, hg2⟩
    have hp2 := hp1.grow hg2 (fun n h1 h2 => by omega)
    have hc2 := hg2.get hc1 (by rw [hm1]; omega)
    (with_reducible apply cw); (focus ((repeat (first | ((with_reducible apply keep_drop); (focus rfl)) | ((with_reducible apply keep_keep); (focus rfl)))); (with_reducible exact keep_nil))); (focus ((try simp only [tput, List.set_cons_zero, List.set_cons_succ]); exact rfl)); (all_goals clear cw Cw)
    · repeat' (first
        | ((first | (with_reducible first | refine WL_do fun Cw cw => ?_ | refine WE_2 fun Cw cw => ?_) | ((with_reducible apply WE_1); intro Cw cw) | ((with_reducible apply WE_0); (focus rfl); intro Cw cw) | ((with_reducible refine HeldAt_cons ?_ ?_); (focus (with_reducible apply_assumption -exfalso -symm only [*])); (with_reducible refine HeldOp_of fun Cw cw => ?_))); (focus (first | ((with_reducible first | apply O_move | apply O_assign | apply O_pickV | apply O_extract); (repeat rfl); (first | (with_reducible exact cw) | ((with_reducible apply cw); (try (focus ((repeat (first | ((with_reducible apply keep_drop); (focus rfl)) | ((with_reducible apply keep_keep); (focus rfl)))); (with_reducible exact keep_nil)))); (focus ((try simp only [zp]); exact rfl)); (all_goals clear cw Cw)))) | ((with_reducible first | apply O_load | apply O_fieldAddr | apply O_bin | apply O_box); (repeat rfl); simp (disch := omega) only [go_sem, hc2]; (first | (with_reducible exact cw) | ((with_reducible apply cw); (try (focus ((repeat (first | ((with_reducible apply keep_drop); (focus rfl)) | ((with_reducible apply keep_keep); (focus rfl)))); (with_reducible exact keep_nil)))); (focus ((try simp only [zp]); exact rfl)); (all_goals clear cw Cw)))))); (try ((with_reducible apply eq_id); (focus ((try simp only [zp]); exact rfl)) ; (try intro Fh hFh))))
        | ((first | ((with_reducible apply WL_if); (focus rfl)) | ((with_reducible apply WL_un); (focus rfl))); (focus ((try simp only [zp]); exact rfl)))
        | ((first | ((with_reducible apply WE_if1); (focus rfl)) | ((with_reducible apply WE_un1); (focus rfl))); (focus ((try simp only [zp]); exact rfl)))
        | ((with_reducible first | refine WL_nil (hK _ _ ?_) | refine WE_nil (hK _ _ ?_)); clear hK K)
        | ((first | ((with_reducible apply WE_if0); (focus rfl); (focus rfl)) | ((with_reducible apply WE_un0); (focus rfl); (focus rfl))); (focus ((try simp only [zp]); exact rfl)))
        | ((first | ((with_reducible apply WE_if2); (focus rfl)) | ((with_reducible apply WE_un2); (focus rfl))); (focus ((repeat (first | ((with_reducible apply keep_drop); (focus rfl)) | ((with_reducible apply keep_keep); (focus rfl)))); (with_reducible exact keep_nil))); (focus ((try simp only [zp]); exact rfl)))
        | ((with_reducible apply WE_pick0); (focus rfl); (focus rfl); (focus rfl); (focus ((try simp only [zp]); exact rfl)); (focus ((try simp only [zp]); exact rfl)))
        | (with_reducible exact HeldAt_nil)
        | ((with_reducible first | refine T_eff_seq (id := 3) [(0, 0), (1, 0), (2, 1), (3, 0), (4, 1), (5, 0), (6, 1), (8, 0), (9, 0), (10, 1), (11, 0), (12, 1), (13, 0), (14, 1), (7, 2), (15, 2), (16, 0), (17, 0)] ?_ ?_ ?_ ?_ (fun K hK => ?_) | refine T_eff_end (id := 3) [(0, 0), (1, 0), (2, 1), (3, 0), (4, 1), (5, 0), (6, 1), (8, 0), (9, 0), (10, 1), (11, 0), (12, 1), (13, 0), (14, 1), (7, 2), (15, 2), (16, 0), (17, 0)] ?_ ?_ ?_ ?_ (fun K hK => ?_)); (focus kernel_rfl); (focus kernel_rfl); (focus kernel_rfl); (focus kernel_rfl); simp only [triples, List.getElem?_toArray, List.getElem?_cons_zero, List.getElem?_cons_succ])
        | ((with_reducible first | refine T_reg_seq fun K hK => ?_ | refine T_reg_end fun K hK => ?_); simp only [zl])
        | ((with_reducible first | apply T_cond_seq | apply T_cond); (focus rfl))
        | (intro hg; (first | (simp only [zb] at hg; done) | ((try simp only [zb, eq_self] at hg); (have hh : True := hg); clear hh hg) | ((try simp only [zb] at hg); (try (have hh := hg; simp only [hh]; clear hh)); (try simp only [zg, zq, ne_eq, gt_iff_lt, ge_iff_le] at hg); (try (exfalso; omega)))))
        | with_reducible first | refine T_seq_assoc ?_ | refine T_skip_seq ?_ | refine T_ret_seq ?_ | refine T_exit_seq ?_ | refine T_ret ?_ | refine T_skip ?_ | refine T_exit ?_ | refine T_block_seq fun Kb hKb => ?_ | refine T_block ?_
        | (simp only [TX.inBlock, TX.then, zi, Nat.reduceEqDiff])
        | ((with_reducible first | refine hR _ _ (fun C cc => ?_) | refine hN _ _ (fun C cc => ?_)); simp (disch := omega) only [go_sem, hc2]; (with_reducible apply cc); clear cc C)
        | (with_reducible apply_assumption -exfalso -symm only [*]))
    repeat' (first
      | ((first | (with_reducible first | refine WL_do fun Cw cw => ?_ | refine WE_2 fun Cw cw => ?_) | ((with_reducible apply WE_1); intro Cw cw) | ((with_reducible apply WE_0); (focus rfl); intro Cw cw) | ((with_reducible refine HeldAt_cons ?_ ?_); (focus (with_reducible apply_assumption -exfalso -symm only [*])); (with_reducible refine HeldOp_of fun Cw cw => ?_))); (focus (first | ((with_reducible first | apply O_move | apply O_assign | apply O_pickV | apply O_extract); (repeat rfl); (first | (with_reducible exact cw) | ((with_reducible apply cw); (try (focus ((repeat (first | ((with_reducible apply keep_drop); (focus rfl)) | ((with_reducible apply keep_keep); (focus rfl)))); (with_reducible exact keep_nil)))); (focus ((try simp only [zp]); exact rfl)); (all_goals clear cw Cw)))) | ((with_reducible first | apply O_load | apply O_fieldAddr | apply O_bin | apply O_box); (repeat rfl); simp (disch := omega) only [go_sem, hc2]; (first | (with_reducible exact cw) | ((with_reducible apply cw); (try (focus ((repeat (first | ((with_reducible apply keep_drop); (focus rfl)) | ((with_reducible apply keep_keep); (focus rfl)))); (with_reducible exact keep_nil)))); (focus ((try simp only [zp]); exact rfl)); (all_goals clear cw Cw)))))); (try ((with_reducible apply eq_id); (focus ((try simp only [zp]); exact rfl)) ; (try intro Fh hFh))))
      | ((first | ((with_reducible apply WL_if); (focus rfl)) | ((with_reducible apply WL_un); (focus rfl))); (focus ((try simp only [zp]); exact rfl)))
      | ((first | ((with_reducible apply WE_if1); (focus rfl)) | ((with_reducible apply WE_un1); (focus rfl))); (focus ((try simp only [zp]); exact rfl)))
      | ((with_reducible first | refine WL_nil (hK _ _ ?_) | refine WE_nil (hK _ _ ?_)); clear hK K)
      | ((first | ((with_reducible apply WE_if0); (focus rfl); (focus rfl)) | ((with_reducible apply WE_un0); (focus rfl); (focus rfl))); (focus ((try simp only [zp]); exact rfl)))
      | ((first | ((with_reducible apply WE_if2); (focus rfl)) | ((with_reducible apply WE_un2); (focus rfl))); (focus ((repeat (first | ((with_reducible apply keep_drop); (focus rfl)) | ((with_reducible apply keep_keep); (focus rfl)))); (with_reducible exact keep_nil))); (focus ((try simp only [zp]); exact rfl)))
      | ((with_reducible apply WE_pick0); (focus rfl); (focus rfl); (focus rfl); (focus ((try simp only [zp]); exact rfl)); (focus ((try simp only [zp]); exact rfl)))
      | (with_reducible exact HeldAt_nil)
      | ((with_reducible first | refine T_eff_seq (id := 3) [(0, 0), (1, 0), (2, 1), (3, 0), (4, 1), (5, 0), (6, 1), (8, 0), (9, 0), (10, 1), (11, 0), (12, 1), (13, 0), (14, 1), (7, 2), (15, 2), (16, 0), (17, 0)] ?_ ?_ ?_ ?_ (fun K hK => ?_) | refine T_eff_end (id := 3) [(0, 0), (1, 0), (2, 1), (3, 0), (4, 1), (5, 0), (6, 1), (8, 0), (9, 0), (10, 1), (11, 0), (12, 1), (13, 0), (14, 1), (7, 2), (15, 2), (16, 0), (17, 0)] ?_ ?_ ?_ ?_ (fun K hK => ?_)); (focus kernel_rfl); (focus kernel_rfl); (focus kernel_rfl); (focus kernel_rfl); simp only [triples, List.getElem?_toArray, List.getElem?_cons_zero, List.getElem?_cons_succ])
      | ((with_reducible first | refine T_reg_seq fun K hK => ?_ | refine T_reg_end fun K hK => ?_); simp only [zl])
      | ((with_reducible first | apply T_cond_seq | apply T_cond); (focus rfl))
      | (intro hg; (first | (simp only [zb] at hg; done) | ((try simp only [zb, eq_self] at hg); (have hh : True := hg); clear hh hg) | ((try simp only [zb] at hg); (try (have hh := hg; simp only [hh]; clear hh)); (try simp only [zg, zq, ne_eq, gt_iff_lt, ge_iff_le] at hg); (try (exfalso; omega)))))
      | with_reducible first | refine T_seq_assoc ?_ | refine T_skip_seq ?_ | refine T_ret_seq ?_ | refine T_exit_seq ?_ | refine T_ret ?_ | refine T_skip ?_ | refine T_exit ?_ | refine T_block_seq fun Kb hKb => ?_ | refine T_block ?_
      | (simp only [TX.inBlock, TX.then, zi, Nat.reduceEqDiff])
      | ((with_reducible first | refine hR _ _ (fun C cc => ?_) | refine hN _ _ (fun C cc => ?_)); simp (disch := omega) only [go_sem, hc2]; (with_reducible apply cc); clear cc C)
      | (with_reducible apply_assumption -exfalso -symm only [*]))
    exact ⟨by first | rfl | trivial, lab2, ⟨hp2, hq2, by omega⟩, (hG.trans (hg1.mono fun n e => by omega)).trans (hg2.mono fun n e => by omega)⟩
  by_cases h1 : o.ask = 1
  · have hs : stepR o bs = bs := by rw [stepR, if_neg h0, if_pos h1]
    rw [hs]
    have ha := sample_walk hT.p o.now o.port
    have hb := refsample_walk hT.q o.now o.port hlen
    refine calls_of [] [.tmp 6] Try.func51 (by kernel_rfl) rfl (by kernel_rfl) fun X hR hN => ?_
    show Tw _ _ _ _ ([some _, some _, some _] ++ List.replicate 111 none) _
    simp only [List.replicate, List.cons_append, List.nil_append]
    repeat' (first
      | ((first | (with_reducible refine WL_do fun Cw cw => ?_) | ((with_reducible apply WP_do); intro Cw cw)); (focus (first | ((with_reducible first | apply O_move | apply O_assign | apply O_pickV | apply O_extract); (repeat rfl); (first | (with_reducible exact cw) | ((with_reducible apply cw); (focus ((try simp only [zp]); exact rfl)); clear cw Cw))) | ((with_reducible first | apply O_load | apply O_fieldAddr | apply O_bin | apply O_box); (repeat rfl); simp (disch := omega) only [go_sem]; (first | (with_reducible exact cw) | ((with_reducible apply cw); (focus ((try simp only [zp]); exact rfl)); clear cw Cw))) | ((with_reducible first | apply O_callF | apply O_call); (repeat rfl); (try simp only [za]); (refine TPure.go (by (first | apply ha | apply hb) <;> first | assumption | omega | exact Eq.trans (get_old (by assumption)) (by assumption)) ?_); (first | (with_reducible exact cw) | ((with_reducible apply cw); (focus ((try simp only [zp]); exact rfl)); clear cw Cw))))); (try ((with_reducible apply eq_id); (focus ((try simp only [zp]); exact rfl)))))
      | ((first | ((with_reducible first | apply WL_if | apply WP_if); (focus rfl)) | ((with_reducible first | apply WL_un | apply WP_un); (focus rfl))); (focus ((try simp only [zp]); exact rfl)))
      | ((with_reducible first | refine WL_nil (hK _ _ ?_) | refine WP_nil (hK _ _ ?_)); clear hK K)
      | ((with_reducible apply WP_pick); (focus rfl); (focus rfl); (focus rfl); (focus ((try simp only [zp]); exact rfl)); (focus ((try simp only [zp]); exact rfl)))
      | ((with_reducible first | refine T_reg_seq fun K hK => ?_ | refine T_reg_end fun K hK => ?_); simp only [zl])
      | ((with_reducible first | refine T_pure_seq ?_ ?_ (fun K hK => ?_) | refine T_pure_end ?_ ?_ (fun K hK => ?_)); (focus kernel_rfl); (focus kernel_rfl); simp only [zl])
      | ((with_reducible first | apply T_cond_seq | apply T_cond); (focus rfl))
      | (intro hg; (first | (simp only [zb] at hg; done) | ((try simp only [zb, eq_self] at hg); (have hh : True := hg); clear hh hg) | ((try simp only [zb] at hg); (try (have hh := hg; simp only [hh]; clear hh)); (try simp only [zg, zq, ne_eq, gt_iff_lt, ge_iff_le] at hg); (try (exfalso; omega)))))
      | with_reducible first | refine T_seq_assoc ?_ | refine T_skip_seq ?_ | refine T_ret_seq ?_ | refine T_exit_seq ?_ | refine T_ret ?_ | refine T_skip ?_ | refine T_exit ?_ | refine T_block_seq fun Kb hKb => ?_ | refine T_block ?_
      | (simp only [TX.inBlock, TX.then, zi, Nat.reduceEqDiff])
      | ((with_reducible first | refine hR _ _ (fun C cc => ?_) | refine hN _ _ (fun C cc => ?_)); simp (disch := omega) only [go_sem]; (with_reducible apply cc); clear cc C)
      | (with_reducible apply_assumption -exfalso -symm only [*]))
    exact ⟨by first | rfl | trivial, _, hT, hG⟩
  by_cases h2 : o.ask = 2
  · have hs : stepR o bs = (nextR o.port bs).1 := by rw [stepR, if_neg h0, if_neg h1, if_pos h2]
    have hl0 := nextR_len o.port bs
    rw [hs]
    refine calls_of [] [.tmp 6] Try.func51 (by kernel_rfl) rfl (by kernel_rfl) fun X hR hN => ?_
    show Tw _ _ _ _ ([some _, some _, some _] ++ List.replicate 111 none) _
    simp only [List.replicate, List.cons_append, List.nil_append]
    repeat' (first
      | ((first | (with_reducible refine WL_do fun Cw cw => ?_) | ((with_reducible apply WP_do); intro Cw cw)); (focus (first | ((with_reducible first | apply O_move | apply O_assign | apply O_pickV | apply O_extract); (repeat rfl); (first | (with_reducible exact cw) | ((with_reducible apply cw); (focus ((try simp only [zp]); exact rfl)); clear cw Cw))) | ((with_reducible first | apply O_load | apply O_fieldAddr | apply O_bin | apply O_box); (repeat rfl); simp (disch := omega) only [go_sem]; (first | (with_reducible exact cw) | ((with_reducible apply cw); (focus ((try simp only [zp]); exact rfl)); clear cw Cw))))); (try ((with_reducible apply eq_id); (focus ((try simp only [zp]); exact rfl)))))
      | ((first | ((with_reducible first | apply WL_if | apply WP_if); (focus rfl)) | ((with_reducible first | apply WL_un | apply WP_un); (focus rfl))); (focus ((try simp only [zp]); exact rfl)))
      | ((with_reducible first | refine WL_nil (hK _ _ ?_) | refine WP_nil (hK _ _ ?_)); clear hK K)
      | ((with_reducible apply WP_pick); (focus rfl); (focus rfl); (focus rfl); (focus ((try simp only [zp]); exact rfl)); (focus ((try simp only [zp]); exact rfl)))
      | ((with_reducible first | refine T_reg_seq fun K hK => ?_ | refine T_reg_end fun K hK => ?_); simp only [zl])
      | ((with_reducible first | refine T_pure_seq ?_ ?_ (fun K hK => ?_) | refine T_pure_end ?_ ?_ (fun K hK => ?_)); (focus kernel_rfl); (focus kernel_rfl); simp only [zl])
      | ((with_reducible first | apply T_cond_seq | apply T_cond); (focus rfl))
      | (intro hg; (first | (simp only [zb] at hg; done) | ((try simp only [zb, eq_self] at hg); (have hh : True := hg); clear hh hg) | ((try simp only [zb] at hg); (try (have hh := hg; simp only [hh]; clear hh)); (try simp only [zg, zq, ne_eq, gt_iff_lt, ge_iff_le] at hg); (try (exfalso; omega)))))
      | with_reducible first | refine T_seq_assoc ?_ | refine T_skip_seq ?_ | refine T_ret_seq ?_ | refine T_exit_seq ?_ | refine T_ret ?_ | refine T_skip ?_ | refine T_exit ?_ | refine T_block_seq fun Kb hKb => ?_ | refine T_block ?_
      | (simp only [TX.inBlock, TX.then, zi, Nat.reduceEqDiff])
      | ((with_reducible first | refine hR _ _ (fun C cc => ?_) | refine hN _ _ (fun C cc => ?_)); simp (disch := omega) only [go_sem]; (with_reducible apply cc); clear cc C)
      | (with_reducible apply_assumption -exfalso -symm only [*]))
    refine WL_do fun Cw cw => ?_
    (with_reducible first | apply O_callF | apply O_call); (repeat rfl); (try simp only [List.nil_append, List.append_nil, List.cons_append])
    refine (next_walk hT.p o.port).mono ?_
    rintro u1 τ1 ⟨rfl, lab1, hp1, hg1⟩
    have hq1 := hT.q.grow hg1 (fun n h1 h2 => by omega)
    have hc1 := hg1.get hget (by rw [hmark]; omega)
    have hm1 := (hg1.mark hget).trans hmark
    (with_reducible apply cw); (focus ((try simp only [tput, List.set_cons_zero, List.set_cons_succ]); exact rfl)); clear cw Cw
    repeat' (first
      | ((first | (with_reducible refine WL_do fun Cw cw => ?_) | ((with_reducible apply WP_do); intro Cw cw)); (focus (first | ((with_reducible first | apply O_move | apply O_assign | apply O_pickV | apply O_extract); (repeat rfl); (first | (with_reducible exact cw) | ((with_reducible apply cw); (focus ((try simp only [zp]); exact rfl)); clear cw Cw))) | ((with_reducible first | apply O_load | apply O_fieldAddr | apply O_bin | apply O_box); (repeat rfl); simp (disch := omega) only [go_sem, hc1]; (first | (with_reducible exact cw) | ((with_reducible apply cw); (focus ((try simp only [zp]); exact rfl)); clear cw Cw))))); (try ((with_reducible apply eq_id); (focus ((try simp only [zp]); exact rfl)))))
      | ((first | ((with_reducible first | apply WL_if | apply WP_if); (focus rfl)) | ((with_reducible first | apply WL_un | apply WP_un); (focus rfl))); (focus ((try simp only [zp]); exact rfl)))
      | ((with_reducible first | refine WL_nil (hK _ _ ?_) | refine WP_nil (hK _ _ ?_)); clear hK K)
      | ((with_reducible apply WP_pick); (focus rfl); (focus rfl); (focus rfl); (focus ((try simp only [zp]); exact rfl)); (focus ((try simp only [zp]); exact rfl)))
      | ((with_reducible first | refine T_reg_seq fun K hK => ?_ | refine T_reg_end fun K hK => ?_); simp only [zl])
      | ((with_reducible first | refine T_pure_seq ?_ ?_ (fun K hK => ?_) | refine T_pure_end ?_ ?_ (fun K hK => ?_)); (focus kernel_rfl); (focus kernel_rfl); simp only [zl])
      | ((with_reducible first | apply T_cond_seq | apply T_cond); (focus rfl))
      | (intro hg; (first | (simp only [zb] at hg; done) | ((try simp only [zb, eq_self] at hg); (have hh : True := hg); clear hh hg) | ((try simp only [zb] at hg); (try (have hh := hg; simp only [hh]; clear hh)); (try simp only [zg, zq, ne_eq, gt_iff_lt, ge_iff_le] at hg); (try (exfalso; omega)))))
      | with_reducible first | refine T_seq_assoc ?_ | refine T_skip_seq ?_ | refine T_ret_seq ?_ | refine T_exit_seq ?_ | refine T_ret ?_ | refine T_skip ?_ | refine T_exit ?_ | refine T_block_seq fun Kb hKb => ?_ | refine T_block ?_
      | (simp only [TX.inBlock, TX.then, zi, Nat.reduceEqDiff])
      | ((with_reducible first | refine hR _ _ (fun C cc => ?_) | refine hN _ _ (fun C cc => ?_)); simp (disch := omega) only [go_sem, hc1]; (with_reducible apply cc); clear cc C)
      | (with_reducible apply_assumption -exfalso -symm only [*]))
    refine WL_do fun Cw cw => ?_
    (with_reducible first | apply O_callF | apply O_call); (repeat rfl); (try simp only [List.nil_append, List.append_nil, List.cons_append])
    refine (refnext_walk hq1 o.port hlen).mono ?_
    rintro u2 τ2 ⟨rfl, lab2, hq2, hg2⟩
    have hp2 := hp1.grow hg2 (fun n h1 h2 => by omega)
    have hc2 := hg2.get hc1 (by rw [hm1]; omega)
    (with_reducible apply cw); (focus ((try simp only [tput, List.set_cons_zero, List.set_cons_succ]); exact rfl)); clear cw Cw
    repeat' (first
      | ((first | (with_reducible refine WL_do fun Cw cw => ?_) | ((with_reducible apply WP_do); intro Cw cw)); (focus (first | ((with_reducible first | apply O_move | apply O_assign | apply O_pickV | apply O_extract); (repeat rfl); (first | (with_reducible exact cw) | ((with_reducible apply cw); (focus ((try simp only [zp]); exact rfl)); clear cw Cw))) | ((with_reducible first | apply O_load | apply O_fieldAddr | apply O_bin | apply O_box); (repeat rfl); simp (disch := omega) only [go_sem, hc2]; (first | (with_reducible exact cw) | ((with_reducible apply cw); (focus ((try simp only [zp]); exact rfl)); clear cw Cw))))); (try ((with_reducible apply eq_id); (focus ((try simp only [zp]); exact rfl)))))
      | ((first | ((with_reducible first | apply WL_if | apply WP_if); (focus rfl)) | ((with_reducible first | apply WL_un | apply WP_un); (focus rfl))); (focus ((try simp only [zp]); exact rfl)))
      | ((with_reducible first | refine WL_nil (hK _ _ ?_) | refine WP_nil (hK _ _ ?_)); clear hK K)
      | ((with_reducible apply WP_pick); (focus rfl); (focus rfl); (focus rfl); (focus ((try simp only [zp]); exact rfl)); (focus ((try simp only [zp]); exact rfl)))
      | ((with_reducible first | refine T_reg_seq fun K hK => ?_ | refine T_reg_end fun K hK => ?_); simp only [zl])
      | ((with_reducible first | refine T_pure_seq ?_ ?_ (fun K hK => ?_) | refine T_pure_end ?_ ?_ (fun K hK => ?_)); (focus kernel_rfl); (focus kernel_rfl); simp only [zl])
      | ((with_reducible first | apply T_cond_seq | apply T_cond); (focus rfl))
      | (intro hg; (first | (simp only [zb] at hg; done) | ((try simp only [zb, eq_self] at hg); (have hh : True := hg); clear hh hg) | ((try simp only [zb] at hg); (try (have hh := hg; simp only [hh]; clear hh)); (try simp only [zg, zq, ne_eq, gt_iff_lt, ge_iff_le] at hg); (try (exfalso; omega)))))
      | with_reducible first | refine T_seq_assoc ?_ | refine T_skip_seq ?_ | refine T_ret_seq ?_ | refine T_exit_seq ?_ | refine T_ret ?_ | refine T_skip ?_ | refine T_exit ?_ | refine T_block_seq fun Kb hKb => ?_ | refine T_block ?_
      | (simp only [TX.inBlock, TX.then, zi, Nat.reduceEqDiff])
      | ((with_reducible first | refine hR _ _ (fun C cc => ?_) | refine hN _ _ (fun C cc => ?_)); simp (disch := omega) only [go_sem, hc2]; (with_reducible apply cc); clear cc C)
      | (with_reducible apply_assumption -exfalso -symm only [*]))
    exact ⟨by first | rfl | trivial, lab2, ⟨hp2, hq2, by omega⟩, (hG.trans (hg1.mono fun n e => by omega)).trans (hg2.mono fun n e => by omega)⟩
  · have hs : stepR o bs = clearR o.port bs := by rw [stepR, if_neg h0, if_neg h1, if_neg h2]
    have hl0 : (clearR o.port bs).length = bs.length := List.length_map _
    rw [hs]
    refine calls_of [] [.tmp 6] Try.func51 (by kernel_rfl) rfl (by kernel_rfl) fun X hR hN => ?_
    show Tw _ _ _ _ ([some _, some _, some _] ++ List.replicate 111 none) _
    simp only [List.replicate, List.cons_append, List.nil_append]
    repeat' (first
      | ((first | (with_reducible refine WL_do fun Cw cw => ?_) | ((with_reducible apply WP_do); intro Cw cw)); (focus (first | ((with_reducible first | apply O_move | apply O_assign | apply O_pickV | apply O_extract); (repeat rfl); (first | (with_reducible exact cw) | ((with_reducible apply cw); (focus ((try simp only [zp]); exact rfl)); clear cw Cw))) | ((with_reducible first | apply O_load | apply O_fieldAddr | apply O_bin | apply O_box); (repeat rfl); simp (disch := omega) only [go_sem]; (first | (with_reducible exact cw) | ((with_reducible apply cw); (focus ((try simp only [zp]); exact rfl)); clear cw Cw))))); (try ((with_reducible apply eq_id); (focus ((try simp only [zp]); exact rfl)))))
      | ((first | ((with_reducible first | apply WL_if | apply WP_if); (focus rfl)) | ((with_reducible first | apply WL_un | apply WP_un); (focus rfl))); (focus ((try simp only [zp]); exact rfl)))
      | ((with_reducible first | refine WL_nil (hK _ _ ?_) | refine WP_nil (hK _ _ ?_)); clear hK K)
      | ((with_reducible apply WP_pick); (focus rfl); (focus rfl); (focus rfl); (focus ((try simp only [zp]); exact rfl)); (focus ((try simp only [zp]); exact rfl)))
      | ((with_reducible first | refine T_reg_seq fun K hK => ?_ | refine T_reg_end fun K hK => ?_); simp only [zl])
      | ((with_reducible first | refine T_pure_seq ?_ ?_ (fun K hK => ?_) | refine T_pure_end ?_ ?_ (fun K hK => ?_)); (focus kernel_rfl); (focus kernel_rfl); simp only [zl])
      | ((with_reducible first | apply T_cond_seq | apply T_cond); (focus rfl))
      | (intro hg; (first | (simp only [zb] at hg; done) | ((try simp only [zb, eq_self] at hg); (have hh : True := hg); clear hh hg) | ((try simp only [zb] at hg); (try (have hh := hg; simp only [hh]; clear hh)); (try simp only [zg, zq, ne_eq, gt_iff_lt, ge_iff_le] at hg); (try (exfalso; omega)))))
      | with_reducible first | refine T_seq_assoc ?_ | refine T_skip_seq ?_ | refine T_ret_seq ?_ | refine T_exit_seq ?_ | refine T_ret ?_ | refine T_skip ?_ | refine T_exit ?_ | refine T_block_seq fun Kb hKb => ?_ | refine T_block ?_
      | (simp only [TX.inBlock, TX.then, zi, Nat.reduceEqDiff])
      | ((with_reducible first | refine hR _ _ (fun C cc => ?_) | refine hN _ _ (fun C cc => ?_)); simp (disch := omega) only [go_sem]; (with_reducible apply cc); clear cc C)
      | (with_reducible apply_assumption -exfalso -symm only [*]))
    refine WL_do fun Cw cw => ?_
    (with_reducible first | apply O_callF | apply O_call); (repeat rfl); (try simp only [List.nil_append, List.append_nil, List.cons_append])
    refine (clear_walk hT.p o.port).mono ?_
    rintro u1 τ1 ⟨rfl, lab1, hp1, hg1⟩
    have hq1 := hT.q.grow hg1 (fun n h1 h2 => by omega)
    have hc1 := hg1.get hget (by rw [hmark]; omega)
    have hm1 := (hg1.mark hget).trans hmark
    (with_reducible apply cw); (focus ((try simp only [tput, List.set_cons_zero, List.set_cons_succ]); exact rfl)); clear cw Cw
    repeat' (first
      | ((first | (with_reducible refine WL_do fun Cw cw => ?_) | ((with_reducible apply WP_do); intro Cw cw)); (focus (first | ((with_reducible first | apply O_move | apply O_assign | apply O_pickV | apply O_extract); (repeat rfl); (first | (with_reducible exact cw) | ((with_reducible apply cw); (focus ((try simp only [zp]); exact rfl)); clear cw Cw))) | ((with_reducible first | apply O_load | apply O_fieldAddr | apply O_bin | apply O_box); (repeat rfl); simp (disch := omega) only [go_sem, hc1]; (first | (with_reducible exact cw) | ((with_reducible apply cw); (focus ((try simp only [zp]); exact rfl)); clear cw Cw))))); (try ((with_reducible apply eq_id); (focus ((try simp only [zp]); exact rfl)))))
      | ((first | ((with_reducible first | apply WL_if | apply WP_if); (focus rfl)) | ((with_reducible first | apply WL_un | apply WP_un); (focus rfl))); (focus ((try simp only [zp]); exact rfl)))
      | ((with_reducible first | refine WL_nil (hK _ _ ?_) | refine WP_nil (hK _ _ ?_)); clear hK K)
      | ((with_reducible apply WP_pick); (focus rfl); (focus rfl); (focus rfl); (focus ((try simp only [zp]); exact rfl)); (focus ((try simp only [zp]); exact rfl)))
      | ((with_reducible first | refine T_reg_seq fun K hK => ?_ | refine T_reg_end fun K hK => ?_); simp only [zl])
      | ((with_reducible first | refine T_pure_seq ?_ ?_ (fun K hK => ?_) | refine T_pure_end ?_ ?_ (fun K hK => ?_)); (focus kernel_rfl); (focus kernel_rfl); simp only [zl])
      | ((with_reducible first | apply T_cond_seq | apply T_cond); (focus rfl))
      | (intro hg; (first | (simp only [zb] at hg; done) | ((try simp only [zb, eq_self] at hg); (have hh : True := hg); clear hh hg) | ((try simp only [zb] at hg); (try (have hh := hg; simp only [hh]; clear hh)); (try simp only [zg, zq, ne_eq, gt_iff_lt, ge_iff_le] at hg); (try (exfalso; omega)))))
      | with_reducible first | refine T_seq_assoc ?_ | refine T_skip_seq ?_ | refine T_ret_seq ?_ | refine T_exit_seq ?_ | refine T_ret ?_ | refine T_skip ?_ | refine T_exit ?_ | refine T_block_seq fun Kb hKb => ?_ | refine T_block ?_
      | (simp only [TX.inBlock, TX.then, zi, Nat.reduceEqDiff])
      | ((with_reducible first | refine hR _ _ (fun C cc => ?_) | refine hN _ _ (fun C cc => ?_)); simp (disch := omega) only [go_sem, hc1]; (with_reducible apply cc); clear cc C)
      | (with_reducible apply_assumption -exfalso -symm only [*]))
    refine WL_do fun Cw cw => ?_
    (with_reducible first | apply O_callF | apply O_call); (repeat rfl); (try simp only [List.nil_append, List.append_nil, List.cons_append])
    refine (refclear_walk hq1 o.port hlen).mono ?_
    rintro u2 τ2 ⟨rfl, lab2, hq2, hg2⟩
    have hp2 := hp1.grow hg2 (fun n h1 h2 => by omega)
    have hc2 := hg2.get hc1 (by rw [hm1]; omega)
    (with_reducible apply cw); (focus ((try simp only [tput, List.set_cons_zero, List.set_cons_succ]); exact rfl)); clear cw Cw
    repeat' (first
      | ((first | (with_reducible refine WL_do fun Cw cw => ?_) | ((with_reducible apply WP_do); intro Cw cw)); (focus (first | ((with_reducible first | apply O_move | apply O_assign | apply O_pickV | apply O_extract); (repeat rfl); (first | (with_reducible exact cw) | ((with_reducible apply cw); (focus ((try simp only [zp]); exact rfl)); clear cw Cw))) | ((with_reducible first | apply O_load | apply O_fieldAddr | apply O_bin | apply O_box); (repeat rfl); simp (disch := omega) only [go_sem, hc2]; (first | (with_reducible exact cw) | ((with_reducible apply cw); (focus ((try simp only [zp]); exact rfl)); clear cw Cw))))); (try ((with_reducible apply eq_id); (focus ((try simp only [zp]); exact rfl)))))
      | ((first | ((with_reducible first | apply WL_if | apply WP_if); (focus rfl)) | ((with_reducible first | apply WL_un | apply WP_un); (focus rfl))); (focus ((try simp only [zp]); exact rfl)))
      | ((with_reducible first | refine WL_nil (hK _ _ ?_) | refine WP_nil (hK _ _ ?_)); clear hK K)
      | ((with_reducible apply WP_pick); (focus rfl); (focus rfl); (focus rfl); (focus ((try simp only [zp]); exact rfl)); (focus ((try simp only [zp]); exact rfl)))
      | ((with_reducible first | refine T_reg_seq fun K hK => ?_ | refine T_reg_end fun K hK => ?_); simp only [zl])
      | ((with_reducible first | refine T_pure_seq ?_ ?_ (fun K hK => ?_) | refine T_pure_end ?_ ?_ (fun K hK => ?_)); (focus kernel_rfl); (focus kernel_rfl); simp only [zl])
      | ((with_reducible first | apply T_cond_seq | apply T_cond); (focus rfl))
      | (intro hg; (first | (simp only [zb] at hg; done) | ((try simp only [zb, eq_self] at hg); (have hh : True := hg); clear hh hg) | ((try simp only [zb] at hg); (try (have hh := hg; simp only [hh]; clear hh)); (try simp only [zg, zq, ne_eq, gt_iff_lt, ge_iff_le] at hg); (try (exfalso; omega)))))
      | with_reducible first | refine T_seq_assoc ?_ | refine T_skip_seq ?_ | refine T_ret_seq ?_ | refine T_exit_seq ?_ | refine T_ret ?_ | refine T_skip ?_ | refine T_exit ?_ | refine T_block_seq fun Kb hKb => ?_ | refine T_block ?_
      | (simp only [TX.inBlock, TX.then, zi, Nat.reduceEqDiff])
      | ((with_reducible first | refine hR _ _ (fun C cc => ?_) | refine hN _ _ (fun C cc => ?_)); simp (disch := omega) only [go_sem, hc2]; (with_reducible apply cc); clear cc C)
      | (with_reducible apply_assumption -exfalso -symm only [*]))
    exact ⟨by first | rfl | trivial, lab2, ⟨hp2, hq2, by omega⟩, (hG.trans (hg1.mono fun n e => by omega)).trans (hg2.mono fun n e => by omega)⟩
end
end Go.Proofs.Ytgkcackpffimmaa
