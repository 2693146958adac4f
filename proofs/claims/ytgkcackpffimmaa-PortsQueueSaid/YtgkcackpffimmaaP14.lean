/- The law PortsQueue, walked. -/
import Derived.Test.YtgkcackpffimmaaP11
set_option linter.unusedVariables false
set_option linter.unusedSimpArgs false
set_option maxRecDepth 10000
set_option maxHeartbeats 4000000
namespace Go.Proofs.Ytgkcackpffimmaa
open Go.TM

abbrev boolC (b : Bool) : List TV := [.bool b]
attribute [go_sem] boolC
@[go_sem ↓] theorem lenSt (r : Row (List UInt8)) : tlenOp (mkTab Try.prog) 60 (rowTV strC r) = some (.int .i64 r.l.length) := tlen_row tab60 rfl
@[go_sem ↓] theorem ixSt {k : IntKind} {n : Int} (r : Row (List UInt8)) (h0 : 0 ≤ n) (h1 : n < r.l.length) : tindexAddr (mkTab Try.prog) 60 (rowTV strC r) (.int k n) = some (.cp (.str (B (nth r.l n.toNat)) :: (r.l.drop (n.toNat + 1)).flatMap strC)) :=
  tix_row tab60 rfl tab9 (fun _ => rfl) (by decide) h0 h1
@[go_sem ↓] theorem lenBo (r : Row Bool) : tlenOp (mkTab Try.prog) 61 (rowTV boolC r) = some (.int .i64 r.l.length) := tlen_row tab61 rfl
@[go_sem ↓] theorem ixBo {k : IntKind} {n : Int} (r : Row Bool) (h0 : 0 ≤ n) (h1 : n < r.l.length) : tindexAddr (mkTab Try.prog) 61 (rowTV boolC r) (.int k n) = some (.cp (.bool (nth r.l n.toNat) :: (r.l.drop (n.toNat + 1)).flatMap boolC)) :=
  tix_row tab61 rfl tab4 (fun _ => rfl) (by decide) h0 h1

theorem appQ {σ : TS} {lab : Nat → Nat} {c : Nat} {v : TV} {ls : List (List UInt8)} (h : QS σ lab c v ls) (hb : ls.length ≤ 100000) (s : List UInt8) :
    ∃ v' σ', tappend (mkTab Try.prog) true σ 60 60 v (.sl none 1 [.str (B s)]) = some (v', σ') ∧ QS σ' (labX lab σ.length c) c v' (ls ++ [s]) ∧ Grow σ lab σ' (labX lab σ.length c) (· = c) := by
  rcases h with ⟨rfl, rfl⟩ | ⟨t, e, h1, rfl, h3⟩
  · refine ⟨_, _, appS0, .inr ⟨σ.length, 1, labX_new (Nat.le_refl _), rfl, by rw [List.getElem?_append_right (Nat.le_refl _)]; simp⟩, Grow.tail _ _ _⟩
  · have hlt := lt_of_get h3
    refine ⟨_, _, appS h3 hb, .inr ⟨t, e + 1, (labX_old hlt).trans h1, by simp, List.getElem?_set_self hlt⟩, ⟨by simp, fun i hi => labX_old hi, fun i hi hc => ?_⟩⟩
    rw [List.getElem?_set_ne]
    rintro rfl
    exact hc h1

theorem ixQ {σ : TS} {lab : Nat → Nat} {c : Nat} {v : TV} {ls : List (List UInt8)} (h : QS σ lab c v ls) {i : Nat} (hi : i < ls.length) : tindexAddr (mkTab Try.prog) 60 v (.int .i64 i) = some (.cp (.str (B (nth ls i)) :: (ls.drop (i + 1)).flatMap strC)) := by
  rcases h with ⟨rfl, rfl⟩ | ⟨t, e, h1, rfl, h3⟩
  · cases hi
  · unfold tindexAddr
    simp only [tab60, tab9, Int.toNat_natCast]
    rw [if_pos ⟨by omega, by omega, by rw [strC_len]; omega⟩, flat_drop (k := 1) (fun _ => rfl) hi]
    rfl

abbrev bsQ (depth : Int) (l : List (List UInt8)) (lost : Bool) : List Bx := [⟨⟨2, 1, 1, 2, false, 5, 0, 7, 200, depth, 0⟩, l, 0, lost⟩, ⟨⟨3, 1, 1, 1, false, 5, 0, 8, 50, 0, 1⟩, [], 0, false⟩]
theorem nextQ0 (depth : Int) (lost : Bool) : nextR 2 (bsQ depth [] lost) = (bsQ depth [] false, [], lost, 23) := rfl
theorem nextQ1 (depth : Int) (s : List UInt8) (r : List (List UInt8)) (lost : Bool) : nextR 2 (bsQ depth (s :: r) lost) = (bsQ depth r false, s, lost, 0) := rfl
theorem putQ1 {depth : Int} {l : List (List UInt8)} {lost : Bool} {i : Nat} {s : List UInt8} (hi : i ≤ 100) (hs : s.length ≤ 200) (hf : (l.length : Int) ≥ depth) : putR i 2 s (bsQ depth l lost) = (bsQ depth l true, 22) := by
  have hx : idx (pts (bsQ depth l lost)) 2 = some 0 := rfl
  have hb : putB i s (nth (bsQ depth l lost) 0) = (⟨⟨2, 1, 1, 2, false, 5, 0, 7, 200, depth, 0⟩, l, 0, true⟩, 22) := by
    show putB i s ⟨⟨2, 1, 1, 2, false, 5, 0, 7, 200, depth, 0⟩, l, 0, lost⟩ = _
    rw [putB, if_neg (by simp; omega), if_neg (by simp), if_pos hf]
  rw [putR, if_neg (fun e => e ⟨by omega, by omega⟩), hx]
  simp only
  rw [hb]; rfl
theorem putQ0 {depth : Int} {l : List (List UInt8)} {lost : Bool} {i : Nat} {s : List UInt8} (hi : i ≤ 100) (hs : s.length ≤ 200) (hf : (l.length : Int) < depth) : putR i 2 s (bsQ depth l lost) = (bsQ depth (l ++ [s]) lost, 0) := by
  have hx : idx (pts (bsQ depth l lost)) 2 = some 0 := rfl
  have hb : putB i s (nth (bsQ depth l lost) 0) = (⟨⟨2, 1, 1, 2, false, 5, 0, 7, 200, depth, 0⟩, l ++ [s], 0, lost⟩, 0) := by
    show putB i s ⟨⟨2, 1, 1, 2, false, 5, 0, 7, 200, depth, 0⟩, l, 0, lost⟩ = _
    rw [putB, if_neg (by simp; omega), if_neg (by simp), if_neg (by show ¬ (l.length : Int) ≥ depth; omega)]
  rw [putR, if_neg (fun e => e ⟨by omega, by omega⟩), hx]
  simp only
  rw [hb]; rfl

structure QInv (depth : Int) (τ : TS) (lab : Nat → Nat) (r lm : Nat) (locs : List Nat) (vi vo : TV) (ls il ol : List (List UInt8)) (lost : Bool) : Prop where
  room : RoomP τ lab 1 r lm locs (bsQ depth ls lost)
  qi : QS τ lab 10 vi il
  qo : QS τ lab 11 vo ol
  same : il = ol ++ ls

theorem queue_walk (depth : Int) (hd : I64 depth) (l : Row (List UInt8)) (reads : Row Bool) (hl : l.l.length ≤ 9223372036854775807) (hr : reads.l.length ≤ 9223372036854775807) :
    TCalls Try.prog 14 [.int .i64 depth, rowTV strC l, rowTV boolC reads] [] fun v _ => v = .bool true := by
  have haw := awake22_walk
  have hsm := fun τ => small_walk depth 1 τ
  have hfew := smallC_few (depth := depth) (fresh := 1) hd (by unfold I64; omega)
  by_cases he : (checkS (smallC depth 1)).2.2 = 0
  · have hok := okC_of he
    have hdep : 1 ≤ depth ∧ depth ≤ 64 := by
      obtain ⟨_, _, _, v, _, _, hpv, _⟩ := portS_zero (hok.ports 0 (by show 0 < 2; omega))
      have e : nth (smallC depth 1).ports.l 0 = ⟨2, 1, 1, 2, false, 5, 0, 7, 200, depth, 0⟩ := rfl
      rw [e] at hpv
      unfold portV at hpv
      split at hpv
      · cases hpv
      split at hpv
      · cases hpv
      split at hpv
      · cases hpv
      rename_i h3
      have h3 : ¬ ((2 : Int) = 2 ∧ (depth < 1 ∨ depth > 64 ∨ (0 : Int) ≠ 0)) := h3
      omega
    refine calls_of [90, 116] [.tmp 6] Try.func14 (by kernel_rfl) rfl (by kernel_rfl) fun X hR hN => ?_
    show Tw _ _ _ _ ([some _, some _, some _] ++ List.replicate 140 none) _
    simp only [List.replicate, List.cons_append, List.nil_append]
    repeat' (first
      | ((first | (with_reducible refine WL_do fun Cw cw => ?_) | ((with_reducible apply WP_do); intro Cw cw)); (focus (first | ((with_reducible first | apply O_move | apply O_assign | apply O_pickV | apply O_extract); (repeat rfl); (first | (with_reducible exact cw) | ((with_reducible apply cw); (focus ((try simp only [zp]); exact rfl)); clear cw Cw))) | ((with_reducible first | apply O_load | apply O_bin | apply O_indexAddr | apply O_len); (repeat rfl); simp (disch := omega) only [go_sem]; (first | (with_reducible exact cw) | ((with_reducible apply cw); (focus ((try simp only [zp]); exact rfl)); clear cw Cw))) | ((with_reducible first | apply O_buildSlice | apply O_append); (repeat rfl); (try simp only [zc, zo, Nat.reduceBEq]); simp (disch := omega) only [go_sem]; (first | (with_reducible exact cw) | ((with_reducible apply cw); (focus ((try simp only [zp]); exact rfl)); clear cw Cw))) | ((with_reducible first | apply O_callF | apply O_call); (repeat rfl); (try simp only [za]); (refine TPure.go (by (apply hsm) <;> first | assumption | omega | exact Eq.trans (get_old (by assumption)) (by assumption)) ?_); (first | (with_reducible exact cw) | ((with_reducible apply cw); (focus ((try simp only [zp]); exact rfl)); clear cw Cw))))); (try ((with_reducible apply eq_id); (focus ((try simp only [zp]); exact rfl)))))
      | ((first | ((with_reducible first | apply WL_if | apply WP_if); (focus rfl)) | ((with_reducible first | apply WL_un | apply WP_un); (focus rfl))); (focus ((try simp only [zp]); exact rfl)))
      | ((with_reducible first | refine WL_nil (hK _ _ ?_) | refine WP_nil (hK _ _ ?_)); clear hK K)
      | ((with_reducible apply WP_pick); (focus rfl); (focus rfl); (focus rfl); (focus ((try simp only [zp]); exact rfl)); (focus ((try simp only [zp]); exact rfl)))
      | ((with_reducible first | refine T_reg_seq fun K hK => ?_ | refine T_reg_end fun K hK => ?_); simp only [zl])
      | ((with_reducible first | refine T_pure_seq ?_ ?_ (fun K hK => ?_) | refine T_pure_end ?_ ?_ (fun K hK => ?_)); (focus kernel_rfl); (focus kernel_rfl); simp only [zl])
      | ((with_reducible first | apply T_cond_seq | apply T_cond); (focus rfl))
      | (intro hg; (first | (simp only [zb] at hg; done) | ((try simp only [zb, eq_self] at hg); (have hh : True := hg); clear hh hg) | ((try simp only [zb] at hg); (try (have hh := hg; simp only [hh]; clear hh)); (try simp only [zg, zq, ne_eq, gt_iff_lt, ge_iff_le] at hg); (try (exfalso; omega)))))
      | with_reducible first | refine T_seq_assoc ?_ | refine T_skip_seq ?_ | refine T_ret_seq ?_ | refine T_exit_seq ?_ | refine T_ret ?_ | refine T_skip ?_ | refine T_exit ?_ | refine T_block_seq fun Kb hKb => ?_ | refine T_block ?_
      | (simp only [TX.inBlock, TX.then, zi, Nat.reduceEqDiff])
      | ((with_reducible first | refine hR _ _ (fun C cc => ?_) | refine hN _ _ (fun C cc => ?_)); simp (disch := omega) only [go_sem]; (with_reducible apply cc); clear cc C)
      | (with_reducible apply_assumption -exfalso -symm only [*]))
    refine WL_do fun Cw cw => ?_
    (with_reducible first | apply O_callF | apply O_call); (repeat rfl); (try simp only [List.nil_append, List.append_nil, List.cons_append])
    refine (own_new _ hfew 1 (by unfold I64; omega) _ (fun _ => 0) 1 hok (by simp [smallC])).mono ?_
    rintro u1 τ1 ⟨r, lm, locs, lab1, rfl, hp1, hg1⟩
    rw [roomOf_small] at hp1
    (with_reducible apply cw); (focus ((try simp only [tput, List.set_cons_zero, List.set_cons_succ]); exact rfl)); clear cw Cw
    repeat' (first
      | ((first | (with_reducible refine WL_do fun Cw cw => ?_) | ((with_reducible apply WP_do); intro Cw cw)); (focus (first | ((with_reducible first | apply O_move | apply O_assign | apply O_pickV | apply O_extract); (repeat rfl); (first | (with_reducible exact cw) | ((with_reducible apply cw); (focus ((try simp only [zp]); exact rfl)); clear cw Cw))) | ((with_reducible first | apply O_load | apply O_bin | apply O_indexAddr | apply O_len); (repeat rfl); simp (disch := omega) only [go_sem]; (first | (with_reducible exact cw) | ((with_reducible apply cw); (focus ((try simp only [zp]); exact rfl)); clear cw Cw))) | ((with_reducible first | apply O_buildSlice | apply O_append); (repeat rfl); (try simp only [zc, zo, Nat.reduceBEq]); simp (disch := omega) only [go_sem]; (first | (with_reducible exact cw) | ((with_reducible apply cw); (focus ((try simp only [zp]); exact rfl)); clear cw Cw))) | ((with_reducible first | apply O_callF | apply O_call); (repeat rfl); (try simp only [za]); (refine TPure.go (by (apply haw) <;> first | assumption | omega | exact Eq.trans (get_old (by assumption)) (by assumption)) ?_); (first | (with_reducible exact cw) | ((with_reducible apply cw); (focus ((try simp only [zp]); exact rfl)); clear cw Cw))))); (try ((with_reducible apply eq_id); (focus ((try simp only [zp]); exact rfl)))))
      | ((first | ((with_reducible first | apply WL_if | apply WP_if); (focus rfl)) | ((with_reducible first | apply WL_un | apply WP_un); (focus rfl))); (focus ((try simp only [zp]); exact rfl)))
      | ((with_reducible first | refine WL_nil (hK _ _ ?_) | refine WP_nil (hK _ _ ?_)); clear hK K)
      | ((with_reducible apply WP_pick); (focus rfl); (focus rfl); (focus rfl); (focus ((try simp only [zp]); exact rfl)); (focus ((try simp only [zp]); exact rfl)))
      | ((with_reducible first | refine T_reg_seq fun K hK => ?_ | refine T_reg_end fun K hK => ?_); simp only [zl])
      | ((with_reducible first | refine T_pure_seq ?_ ?_ (fun K hK => ?_) | refine T_pure_end ?_ ?_ (fun K hK => ?_)); (focus kernel_rfl); (focus kernel_rfl); simp only [zl])
      | ((with_reducible first | apply T_cond_seq | apply T_cond); (focus rfl))
      | (intro hg; (first | (simp only [zb] at hg; done) | ((try simp only [zb, eq_self] at hg); (have hh : True := hg); clear hh hg) | ((try simp only [zb] at hg); (try (have hh := hg; simp only [hh]; clear hh)); (try simp only [zg, zq, ne_eq, gt_iff_lt, ge_iff_le] at hg); (try (exfalso; omega)))))
      | with_reducible first | refine T_seq_assoc ?_ | refine T_skip_seq ?_ | refine T_ret_seq ?_ | refine T_exit_seq ?_ | refine T_ret ?_ | refine T_skip ?_ | refine T_exit ?_ | refine T_block_seq fun Kb hKb => ?_ | refine T_block ?_
      | (simp only [TX.inBlock, TX.then, zi, Nat.reduceEqDiff])
      | ((with_reducible first | refine hR _ _ (fun C cc => ?_) | refine hN _ _ (fun C cc => ?_)); simp (disch := omega) only [go_sem]; (with_reducible apply cc); clear cc C)
      | (with_reducible apply_assumption -exfalso -symm only [*]))
    refine T_each (α := Nat × TS × (Nat → Nat) × TV × TV × List (List UInt8) × List (List UInt8) × List (List UInt8) × Bool) (fun (i, τ, lab, vi, vo, ls, il, ol, lost) => [some (some (.int .i64 depth)), some (some (rowTV strC l)), some (some (rowTV boolC reads)), none, none, none, none, some (some (.ptr r 0)), none, some (some (vi)), some (some (vo)), some (some (.bool lost)), some (some (.int .i64 i)), none, none, none, none, none, none, none, none, none, none, none, none, none, none, none, none, none, none, none, none, none, none, none, none, none, none, none, none, none, none, none, none, none, none, none, none, none, none, none, none, none, none, none, none, none, none, none, none, none, none, none, none, none, none, none, none, none, none, none, none, none, none, none, none, none, none, none, none, none, none, none, none, none, none, none, none, none, none, none, none, none, none, none, none, none, none, none, none, none, none, none, none, none, none, none, none, none, none, none, none, none, none, none, none, none, none, none, none, none, none, none, none, none, none, none, none, none, none, none, none, none, none, none, none, none, none, none, none, none, none]) (fun (i, τ, lab, vi, vo, ls, il, ol, lost) => i ≤ l.l.length ∧ QInv depth τ lab r lm locs vi vo ls il ol lost ∧ il.length ≤ i) (fun (i, τ, lab, vi, vo, ls, il, ol, lost) => l.l.length - i) (fun (i, τ, lab, vi, vo, ls, il, ol, lost) => τ) ?_ ?_
    · refine ⟨(0, τ1, lab1, .nils, .nils, [], [], [], false), ⟨rfl, rfl, rfl, rfl, rfl, rfl, rfl, rfl, trivial⟩, ?_, rfl⟩
      exact ⟨by omega, ⟨hp1, .inl ⟨rfl, rfl⟩, .inl ⟨rfl, rfl⟩, rfl⟩, by simp⟩
    · rintro ⟨i, τ, lab, vi, vo, ls, il, ol, lost⟩ q ⟨hi, hI, hil⟩
      show Tw _ _ _ _ ([some (.int .i64 depth), some (rowTV strC l), some (rowTV boolC reads), q 3, q 4, q 5, q 6, some (.ptr r 0), q 8, some (vi), some (vo), some (.bool lost), some (.int .i64 i), q 13, q 14, q 15, q 16, q 17, q 18, q 19, q 20, q 21, q 22, q 23, q 24, q 25, q 26, q 27, q 28, q 29, q 30, q 31, q 32, q 33, q 34, q 35, q 36, q 37, q 38, q 39, q 40, q 41, q 42, q 43, q 44, q 45, q 46, q 47, q 48, q 49, q 50, q 51, q 52, q 53, q 54, q 55, q 56, q 57, q 58, q 59, q 60, q 61, q 62, q 63, q 64, q 65, q 66, q 67, q 68, q 69, q 70, q 71, q 72, q 73, q 74, q 75, q 76, q 77, q 78, q 79, q 80, q 81, q 82, q 83, q 84, q 85, q 86, q 87, q 88, q 89, q 90, q 91, q 92, q 93, q 94, q 95, q 96, q 97, q 98, q 99, q 100, q 101, q 102, q 103, q 104, q 105, q 106, q 107, q 108, q 109, q 110, q 111, q 112, q 113, q 114, q 115, q 116, q 117, q 118, q 119, q 120, q 121, q 122, q 123, q 124, q 125, q 126, q 127, q 128, q 129, q 130, q 131, q 132, q 133, q 134, q 135, q 136, q 137, q 138, q 139, q 140, q 141, q 142]) (τ)
      rcases Nat.lt_or_ge i l.l.length with hlt | hge
      · have hlen : (il.length : Int) = ol.length + ls.length := by rw [hI.same, List.length_append]; omega
        have hli := lenQ hI.qi
        have hlo := lenQ hI.qo
        by_cases hs2 : (nth l.l i).length > 200
        · repeat' (first
            | ((first | (with_reducible refine WL_do fun Cw cw => ?_) | ((with_reducible apply WP_do); intro Cw cw)); (focus (first | ((with_reducible first | apply O_move | apply O_assign | apply O_pickV | apply O_extract); (repeat rfl); (first | (with_reducible exact cw) | ((with_reducible apply cw); (focus ((try simp only [zp]); exact rfl)); clear cw Cw))) | ((with_reducible first | apply O_load | apply O_bin | apply O_indexAddr | apply O_len); (repeat rfl); simp (disch := omega) only [go_sem]; (first | (with_reducible exact cw) | ((with_reducible apply cw); (focus ((try simp only [zp]); exact rfl)); clear cw Cw))) | ((with_reducible first | apply O_buildSlice | apply O_append); (repeat rfl); (try simp only [zc, zo, Nat.reduceBEq]); simp (disch := omega) only [go_sem]; (first | (with_reducible exact cw) | ((with_reducible apply cw); (focus ((try simp only [zp]); exact rfl)); clear cw Cw))) | ((with_reducible first | apply O_callF | apply O_call); (repeat rfl); (try simp only [za]); (refine TPure.go (by (apply haw) <;> first | assumption | omega | exact Eq.trans (get_old (by assumption)) (by assumption)) ?_); (first | (with_reducible exact cw) | ((with_reducible apply cw); (focus ((try simp only [zp]); exact rfl)); clear cw Cw))))); (try ((with_reducible apply eq_id); (focus ((try simp only [zp]); exact rfl)))))
            | ((first | ((with_reducible first | apply WL_if | apply WP_if); (focus rfl)) | ((with_reducible first | apply WL_un | apply WP_un); (focus rfl))); (focus ((try simp only [zp]); exact rfl)))
            | ((with_reducible first | refine WL_nil (hK _ _ ?_) | refine WP_nil (hK _ _ ?_)); clear hK K)
            | ((with_reducible apply WP_pick); (focus rfl); (focus rfl); (focus rfl); (focus ((try simp only [zp]); exact rfl)); (focus ((try simp only [zp]); exact rfl)))
            | ((with_reducible first | refine T_reg_seq fun K hK => ?_ | refine T_reg_end fun K hK => ?_); simp only [zl])
            | ((with_reducible first | refine T_pure_seq ?_ ?_ (fun K hK => ?_) | refine T_pure_end ?_ ?_ (fun K hK => ?_)); (focus kernel_rfl); (focus kernel_rfl); simp only [zl])
            | ((with_reducible first | apply T_cond_seq | apply T_cond); (focus rfl))
            | (intro hg; (first | (simp only [zb] at hg; done) | ((try simp only [zb, eq_self] at hg); (have hh : True := hg); clear hh hg) | ((try simp only [zb] at hg); (try (have hh := hg; simp only [hh]; clear hh)); (try simp only [zg, zq, ne_eq, gt_iff_lt, ge_iff_le] at hg); (try (exfalso; omega)))))
            | with_reducible first | refine T_seq_assoc ?_ | refine T_skip_seq ?_ | refine T_ret_seq ?_ | refine T_exit_seq ?_ | refine T_ret ?_ | refine T_skip ?_ | refine T_exit ?_ | refine T_block_seq fun Kb hKb => ?_ | refine T_block ?_
            | (simp only [TX.inBlock, TX.then, zi, Nat.reduceEqDiff])
            | ((with_reducible first | refine hR _ _ (fun C cc => ?_) | refine hN _ _ (fun C cc => ?_)); simp (disch := omega) only [go_sem]; (with_reducible apply cc); clear cc C)
            | (with_reducible apply_assumption -exfalso -symm only [*]))
        have hrd : (i < reads.l.length ∧ nth reads.l i = true ∧ ls = []) ∨ (∃ s rs, i < reads.l.length ∧ nth reads.l i = true ∧ ls = s :: rs) ∨ ¬ (i < reads.l.length ∧ nth reads.l i = true) := by
          by_cases h1 : i < reads.l.length ∧ nth reads.l i = true
          · cases ls with
            | nil => exact .inl ⟨h1.1, h1.2, rfl⟩
            | cons s rs => exact .inr (.inl ⟨s, rs, h1.1, h1.2, rfl⟩)
          · exact .inr (.inr h1)
        rcases hrd with ⟨hrd1, hrd2, hls0⟩ | ⟨s, rs, hrd1, hrd2, rfl⟩ | hrd
        · repeat' (first
            | ((first | (with_reducible refine WL_do fun Cw cw => ?_) | ((with_reducible apply WP_do); intro Cw cw)); (focus (first | ((with_reducible first | apply O_move | apply O_assign | apply O_pickV | apply O_extract); (repeat rfl); (first | (with_reducible exact cw) | ((with_reducible apply cw); (focus ((try simp only [zp]); exact rfl)); clear cw Cw))) | ((with_reducible first | apply O_load | apply O_bin | apply O_indexAddr | apply O_len); (repeat rfl); simp (disch := omega) only [go_sem, hrd2]; (first | (with_reducible exact cw) | ((with_reducible apply cw); (focus ((try simp only [zp]); exact rfl)); clear cw Cw))) | ((with_reducible first | apply O_buildSlice | apply O_append); (repeat rfl); (try simp only [zc, zo, Nat.reduceBEq]); simp (disch := omega) only [go_sem, hrd2]; (first | (with_reducible exact cw) | ((with_reducible apply cw); (focus ((try simp only [zp]); exact rfl)); clear cw Cw))))); (try ((with_reducible apply eq_id); (focus ((try simp only [zp]); exact rfl)))))
            | ((first | ((with_reducible first | apply WL_if | apply WP_if); (focus rfl)) | ((with_reducible first | apply WL_un | apply WP_un); (focus rfl))); (focus ((try simp only [zp]); exact rfl)))
            | ((with_reducible first | refine WL_nil (hK _ _ ?_) | refine WP_nil (hK _ _ ?_)); clear hK K)
            | ((with_reducible apply WP_pick); (focus rfl); (focus rfl); (focus rfl); (focus ((try simp only [zp]); exact rfl)); (focus ((try simp only [zp]); exact rfl)))
            | ((with_reducible first | refine T_reg_seq fun K hK => ?_ | refine T_reg_end fun K hK => ?_); simp only [zl])
            | ((with_reducible first | refine T_pure_seq ?_ ?_ (fun K hK => ?_) | refine T_pure_end ?_ ?_ (fun K hK => ?_)); (focus kernel_rfl); (focus kernel_rfl); simp only [zl])
            | ((with_reducible first | apply T_cond_seq | apply T_cond); (focus rfl))
            | (intro hg; (first | (simp only [zb] at hg; done) | ((try simp only [zb, eq_self] at hg); (have hh : True := hg); clear hh hg) | ((try simp only [zb] at hg); (try (have hh := hg; simp only [hh]; clear hh)); (try simp only [zg, zq, ne_eq, gt_iff_lt, ge_iff_le] at hg); (try (exfalso; omega)))))
            | with_reducible first | refine T_seq_assoc ?_ | refine T_skip_seq ?_ | refine T_ret_seq ?_ | refine T_exit_seq ?_ | refine T_ret ?_ | refine T_skip ?_ | refine T_exit ?_ | refine T_block_seq fun Kb hKb => ?_ | refine T_block ?_
            | (simp only [TX.inBlock, TX.then, zi, Nat.reduceEqDiff])
            | ((with_reducible first | refine hR _ _ (fun C cc => ?_) | refine hN _ _ (fun C cc => ?_)); simp (disch := omega) only [go_sem, hrd2]; (with_reducible apply cc); clear cc C)
            | (with_reducible apply_assumption -exfalso -symm only [*]))
          refine WL_do fun Cw cw => ?_
          (with_reducible first | apply O_callF | apply O_call); (repeat rfl); (try simp only [List.nil_append, List.append_nil, List.cons_append])
          refine (next_walk hI.room 2).mono ?_
          have hn0 : nextR 2 (bsQ depth ls lost) = (bsQ depth ls false, [], lost, 23) := by rw [hls0]; exact nextQ0 depth lost
          rw [hn0]
          rintro u3 τ3 ⟨rfl, lab3, hp3, hg3⟩
          have hJ : QInv depth τ3 lab3 r lm locs vi vo ls il ol false := ⟨hp3, hI.qi.grow hg3 (by simp), hI.qo.grow hg3 (by simp), hI.same⟩
          (with_reducible apply cw); (focus ((try simp only [tput, List.set_cons_zero, List.set_cons_succ]); exact rfl)); clear cw Cw
          have hz : ¬ (il.length : Int) > ol.length := by rw [hls0] at hlen; simp at hlen; omega
          have hz2 : decide (ol.length < il.length) = false := decide_eq_false (by omega)
          repeat' (first
            | ((first | (with_reducible refine WL_do fun Cw cw => ?_) | ((with_reducible apply WP_do); intro Cw cw)); (focus (first | ((with_reducible first | apply O_move | apply O_assign | apply O_pickV | apply O_extract); (repeat rfl); (first | (with_reducible exact cw) | ((with_reducible apply cw); (focus ((try simp only [zp]); exact rfl)); clear cw Cw))) | ((with_reducible first | apply O_load | apply O_bin | apply O_indexAddr | apply O_len); (repeat rfl); simp (disch := omega) only [go_sem, ↓hli, ↓hlo, hz2]; (first | (with_reducible exact cw) | ((with_reducible apply cw); (focus ((try simp only [zp]); exact rfl)); clear cw Cw))) | ((with_reducible first | apply O_buildSlice | apply O_append); (repeat rfl); (try simp only [zc, zo, Nat.reduceBEq]); simp (disch := omega) only [go_sem, ↓hli, ↓hlo, hz2]; (first | (with_reducible exact cw) | ((with_reducible apply cw); (focus ((try simp only [zp]); exact rfl)); clear cw Cw))))); (try ((with_reducible apply eq_id); (focus ((try simp only [zp]); exact rfl)))))
            | ((first | ((with_reducible first | apply WL_if | apply WP_if); (focus rfl)) | ((with_reducible first | apply WL_un | apply WP_un); (focus rfl))); (focus ((try simp only [zp]); exact rfl)))
            | ((with_reducible first | refine WL_nil (hK _ _ ?_) | refine WP_nil (hK _ _ ?_)); clear hK K)
            | ((with_reducible apply WP_pick); (focus rfl); (focus rfl); (focus rfl); (focus ((try simp only [zp]); exact rfl)); (focus ((try simp only [zp]); exact rfl)))
            | ((with_reducible first | refine T_reg_seq fun K hK => ?_ | refine T_reg_end fun K hK => ?_); simp only [zl])
            | ((with_reducible first | refine T_pure_seq ?_ ?_ (fun K hK => ?_) | refine T_pure_end ?_ ?_ (fun K hK => ?_)); (focus kernel_rfl); (focus kernel_rfl); simp only [zl])
            | ((with_reducible first | apply T_cond_seq | apply T_cond); (focus rfl))
            | (intro hg; (first | (simp only [zb] at hg; done) | ((try simp only [zb, eq_self] at hg); (have hh : True := hg); clear hh hg) | ((try simp only [zb] at hg); (try (have hh := hg; simp only [hh]; clear hh)); (try simp only [zg, zq, ne_eq, gt_iff_lt, ge_iff_le] at hg); (try (exfalso; omega)))))
            | with_reducible first | refine T_seq_assoc ?_ | refine T_skip_seq ?_ | refine T_ret_seq ?_ | refine T_exit_seq ?_ | refine T_ret ?_ | refine T_skip ?_ | refine T_exit ?_ | refine T_block_seq fun Kb hKb => ?_ | refine T_block ?_
            | (simp only [TX.inBlock, TX.then, zi, Nat.reduceEqDiff])
            | ((with_reducible first | refine hR _ _ (fun C cc => ?_) | refine hN _ _ (fun C cc => ?_)); simp (disch := omega) only [go_sem, ↓hli, ↓hlo, hz2]; (with_reducible apply cc); clear cc C)
            | (with_reducible apply_assumption -exfalso -symm only [*]))
          obtain ⟨lsJ, olJ, rfl, rfl⟩ : ∃ x y, x = ls ∧ y = ol := ⟨_, _, rfl, rfl⟩
          have hfull : ¬ (lsJ.length : Int) ≥ depth := by rw [hls0]; simp; omega
          have hli := lenQ hJ.qi
          have hlo := lenQ hJ.qo
          refine WL_do fun Cw cw => ?_
          (with_reducible first | apply O_callF | apply O_call); (repeat rfl); (try simp only [List.nil_append, List.append_nil, List.cons_append])
          refine (put_walk hJ.room i 2 (nth l.l i)).mono ?_
          rw [putQ0 (by omega) (by omega) (by omega)]
          rintro u5 τ5 ⟨rfl, lab5, hp5, hg5⟩
          have hz3 : decide ((il.length : Int) - olJ.length < depth) = true := decide_eq_true (by omega)
          obtain ⟨vi', τ6, happ, hqi6, hg6⟩ := appQ (hJ.qi.grow hg5 (by simp)) (by omega) (nth l.l i)
          (with_reducible apply cw); (focus ((try simp only [tput, List.set_cons_zero, List.set_cons_succ]); exact rfl)); clear cw Cw
          repeat' (first
            | ((first | (with_reducible refine WL_do fun Cw cw => ?_) | ((with_reducible apply WP_do); intro Cw cw)); (focus (first | ((with_reducible first | apply O_move | apply O_assign | apply O_pickV | apply O_extract); (repeat rfl); (first | (with_reducible exact cw) | ((with_reducible apply cw); (focus ((try simp only [zp]); exact rfl)); clear cw Cw))) | ((with_reducible first | apply O_load | apply O_bin | apply O_indexAddr | apply O_len); (repeat rfl); simp (disch := omega) only [go_sem, ↓hli, ↓hlo, hz3, ↓happ]; (first | (with_reducible exact cw) | ((with_reducible apply cw); (focus ((try simp only [zp]); exact rfl)); clear cw Cw))) | ((with_reducible first | apply O_buildSlice | apply O_append); (repeat rfl); (try simp only [zc, zo, Nat.reduceBEq]); simp (disch := omega) only [go_sem, ↓hli, ↓hlo, hz3, ↓happ]; (first | (with_reducible exact cw) | ((with_reducible apply cw); (focus ((try simp only [zp]); exact rfl)); clear cw Cw))))); (try ((with_reducible apply eq_id); (focus ((try simp only [zp]); exact rfl)))))
            | ((first | ((with_reducible first | apply WL_if | apply WP_if); (focus rfl)) | ((with_reducible first | apply WL_un | apply WP_un); (focus rfl))); (focus ((try simp only [zp]); exact rfl)))
            | ((with_reducible first | refine WL_nil (hK _ _ ?_) | refine WP_nil (hK _ _ ?_)); clear hK K)
            | ((with_reducible apply WP_pick); (focus rfl); (focus rfl); (focus rfl); (focus ((try simp only [zp]); exact rfl)); (focus ((try simp only [zp]); exact rfl)))
            | ((with_reducible first | refine T_reg_seq fun K hK => ?_ | refine T_reg_end fun K hK => ?_); simp only [zl])
            | ((with_reducible first | refine T_pure_seq ?_ ?_ (fun K hK => ?_) | refine T_pure_end ?_ ?_ (fun K hK => ?_)); (focus kernel_rfl); (focus kernel_rfl); simp only [zl])
            | ((with_reducible first | apply T_cond_seq | apply T_cond); (focus rfl))
            | (intro hg; (first | (simp only [zb] at hg; done) | ((try simp only [zb, eq_self] at hg); (have hh : True := hg); clear hh hg) | ((try simp only [zb] at hg); (try (have hh := hg; simp only [hh]; clear hh)); (try simp only [zg, zq, ne_eq, gt_iff_lt, ge_iff_le] at hg); (try (exfalso; omega)))))
            | with_reducible first | refine T_seq_assoc ?_ | refine T_skip_seq ?_ | refine T_ret_seq ?_ | refine T_exit_seq ?_ | refine T_ret ?_ | refine T_skip ?_ | refine T_exit ?_ | refine T_block_seq fun Kb hKb => ?_ | refine T_block ?_
            | (simp only [TX.inBlock, TX.then, zi, Nat.reduceEqDiff])
            | ((with_reducible first | refine hR _ _ (fun C cc => ?_) | refine hN _ _ (fun C cc => ?_)); simp (disch := omega) only [go_sem, ↓hli, ↓hlo, hz3, ↓happ]; (with_reducible apply cc); clear cc C)
            | (with_reducible apply_assumption -exfalso -symm only [*]))
          refine ⟨(i + 1, τ6, _, vi', _, lsJ ++ [nth l.l i], il ++ [nth l.l i], olJ, _), ?_, ⟨rfl, rfl, rfl, rfl, rfl, rfl, rfl, rfl, trivial⟩, ⟨?_, ⟨hp5.grow hg6 (fun n h1 h2 => by simp at h2 ⊢; omega), hqi6, (hJ.qo.grow hg5 (by simp)).grow hg6 (by simp), by rw [hJ.same]; simp⟩, ?_⟩, rfl⟩ <;> (try dsimp only) <;> (try simp only [List.length_append, List.length_singleton]) <;> omega
        · repeat' (first
            | ((first | (with_reducible refine WL_do fun Cw cw => ?_) | ((with_reducible apply WP_do); intro Cw cw)); (focus (first | ((with_reducible first | apply O_move | apply O_assign | apply O_pickV | apply O_extract); (repeat rfl); (first | (with_reducible exact cw) | ((with_reducible apply cw); (focus ((try simp only [zp]); exact rfl)); clear cw Cw))) | ((with_reducible first | apply O_load | apply O_bin | apply O_indexAddr | apply O_len); (repeat rfl); simp (disch := omega) only [go_sem, hrd2]; (first | (with_reducible exact cw) | ((with_reducible apply cw); (focus ((try simp only [zp]); exact rfl)); clear cw Cw))) | ((with_reducible first | apply O_buildSlice | apply O_append); (repeat rfl); (try simp only [zc, zo, Nat.reduceBEq]); simp (disch := omega) only [go_sem, hrd2]; (first | (with_reducible exact cw) | ((with_reducible apply cw); (focus ((try simp only [zp]); exact rfl)); clear cw Cw))))); (try ((with_reducible apply eq_id); (focus ((try simp only [zp]); exact rfl)))))
            | ((first | ((with_reducible first | apply WL_if | apply WP_if); (focus rfl)) | ((with_reducible first | apply WL_un | apply WP_un); (focus rfl))); (focus ((try simp only [zp]); exact rfl)))
            | ((with_reducible first | refine WL_nil (hK _ _ ?_) | refine WP_nil (hK _ _ ?_)); clear hK K)
            | ((with_reducible apply WP_pick); (focus rfl); (focus rfl); (focus rfl); (focus ((try simp only [zp]); exact rfl)); (focus ((try simp only [zp]); exact rfl)))
            | ((with_reducible first | refine T_reg_seq fun K hK => ?_ | refine T_reg_end fun K hK => ?_); simp only [zl])
            | ((with_reducible first | refine T_pure_seq ?_ ?_ (fun K hK => ?_) | refine T_pure_end ?_ ?_ (fun K hK => ?_)); (focus kernel_rfl); (focus kernel_rfl); simp only [zl])
            | ((with_reducible first | apply T_cond_seq | apply T_cond); (focus rfl))
            | (intro hg; (first | (simp only [zb] at hg; done) | ((try simp only [zb, eq_self] at hg); (have hh : True := hg); clear hh hg) | ((try simp only [zb] at hg); (try (have hh := hg; simp only [hh]; clear hh)); (try simp only [zg, zq, ne_eq, gt_iff_lt, ge_iff_le] at hg); (try (exfalso; omega)))))
            | with_reducible first | refine T_seq_assoc ?_ | refine T_skip_seq ?_ | refine T_ret_seq ?_ | refine T_exit_seq ?_ | refine T_ret ?_ | refine T_skip ?_ | refine T_exit ?_ | refine T_block_seq fun Kb hKb => ?_ | refine T_block ?_
            | (simp only [TX.inBlock, TX.then, zi, Nat.reduceEqDiff])
            | ((with_reducible first | refine hR _ _ (fun C cc => ?_) | refine hN _ _ (fun C cc => ?_)); simp (disch := omega) only [go_sem, hrd2]; (with_reducible apply cc); clear cc C)
            | (with_reducible apply_assumption -exfalso -symm only [*]))
          refine WL_do fun Cw cw => ?_
          (with_reducible first | apply O_callF | apply O_call); (repeat rfl); (try simp only [List.nil_append, List.append_nil, List.cons_append])
          refine (next_walk hI.room 2).mono ?_
          rw [nextQ1]
          rintro u3 τ3 ⟨rfl, lab3, hp3, hg3⟩
          have hqi := hI.qi.grow hg3 (by simp)
          have hqo := hI.qo.grow hg3 (by simp)
          (with_reducible apply cw); (focus ((try simp only [tput, List.set_cons_zero, List.set_cons_succ]); exact rfl)); clear cw Cw
          have hz : (il.length : Int) > ol.length := by simp at hlen; omega
          obtain ⟨vo', τ4, happ, hqo', hg4⟩ := appQ hqo (by omega) s
          have hJ : QInv depth τ4 (labX lab3 τ3.length 11) r lm locs vi vo' rs il (ol ++ [s]) false := ⟨hp3.grow hg4 (fun n _ _ => by simp at *; omega), hqi.grow hg4 (by simp), hqo', by rw [hI.same]; simp⟩
          have hz2 : decide (ol.length < il.length) = true := decide_eq_true (by omega)
          repeat' (first
            | ((first | (with_reducible refine WL_do fun Cw cw => ?_) | ((with_reducible apply WP_do); intro Cw cw)); (focus (first | ((with_reducible first | apply O_move | apply O_assign | apply O_pickV | apply O_extract); (repeat rfl); (first | (with_reducible exact cw) | ((with_reducible apply cw); (focus ((try simp only [zp]); exact rfl)); clear cw Cw))) | ((with_reducible first | apply O_load | apply O_bin | apply O_indexAddr | apply O_len); (repeat rfl); simp (disch := omega) only [go_sem, ↓hli, ↓hlo, ↓happ, hz2]; (first | (with_reducible exact cw) | ((with_reducible apply cw); (focus ((try simp only [zp]); exact rfl)); clear cw Cw))) | ((with_reducible first | apply O_buildSlice | apply O_append); (repeat rfl); (try simp only [zc, zo, Nat.reduceBEq]); simp (disch := omega) only [go_sem, ↓hli, ↓hlo, ↓happ, hz2]; (first | (with_reducible exact cw) | ((with_reducible apply cw); (focus ((try simp only [zp]); exact rfl)); clear cw Cw))))); (try ((with_reducible apply eq_id); (focus ((try simp only [zp]); exact rfl)))))
            | ((first | ((with_reducible first | apply WL_if | apply WP_if); (focus rfl)) | ((with_reducible first | apply WL_un | apply WP_un); (focus rfl))); (focus ((try simp only [zp]); exact rfl)))
            | ((with_reducible first | refine WL_nil (hK _ _ ?_) | refine WP_nil (hK _ _ ?_)); clear hK K)
            | ((with_reducible apply WP_pick); (focus rfl); (focus rfl); (focus rfl); (focus ((try simp only [zp]); exact rfl)); (focus ((try simp only [zp]); exact rfl)))
            | ((with_reducible first | refine T_reg_seq fun K hK => ?_ | refine T_reg_end fun K hK => ?_); simp only [zl])
            | ((with_reducible first | refine T_pure_seq ?_ ?_ (fun K hK => ?_) | refine T_pure_end ?_ ?_ (fun K hK => ?_)); (focus kernel_rfl); (focus kernel_rfl); simp only [zl])
            | ((with_reducible first | apply T_cond_seq | apply T_cond); (focus rfl))
            | (intro hg; (first | (simp only [zb] at hg; done) | ((try simp only [zb, eq_self] at hg); (have hh : True := hg); clear hh hg) | ((try simp only [zb] at hg); (try (have hh := hg; simp only [hh]; clear hh)); (try simp only [zg, zq, ne_eq, gt_iff_lt, ge_iff_le] at hg); (try (exfalso; omega)))))
            | with_reducible first | refine T_seq_assoc ?_ | refine T_skip_seq ?_ | refine T_ret_seq ?_ | refine T_exit_seq ?_ | refine T_ret ?_ | refine T_skip ?_ | refine T_exit ?_ | refine T_block_seq fun Kb hKb => ?_ | refine T_block ?_
            | (simp only [TX.inBlock, TX.then, zi, Nat.reduceEqDiff])
            | ((with_reducible first | refine hR _ _ (fun C cc => ?_) | refine hN _ _ (fun C cc => ?_)); simp (disch := omega) only [go_sem, ↓hli, ↓hlo, ↓happ, hz2]; (with_reducible apply cc); clear cc C)
            | (with_reducible apply_assumption -exfalso -symm only [*]))
          have hlenJ : (il.length : Int) = (ol ++ [s]).length + rs.length := by rw [hJ.same, List.length_append]; omega
          obtain ⟨lsJ, olJ, hlsJ, holJ⟩ : ∃ x y, x = rs ∧ y = ol ++ [s] := ⟨_, _, rfl, rfl⟩
          rw [← hlsJ, ← holJ] at hJ hlenJ
          by_cases hfull : (lsJ.length : Int) ≥ depth
          · have hli := lenQ hJ.qi
            have hlo := lenQ hJ.qo
            refine WL_do fun Cw cw => ?_
            (with_reducible first | apply O_callF | apply O_call); (repeat rfl); (try simp only [List.nil_append, List.append_nil, List.cons_append])
            refine (put_walk hJ.room i 2 (nth l.l i)).mono ?_
            rw [putQ1 (by omega) (by omega) hfull]
            rintro u5 τ5 ⟨rfl, lab5, hp5, hg5⟩
            have hz3 : decide ((il.length : Int) - olJ.length < depth) = false := decide_eq_false (by omega)
            (with_reducible apply cw); (focus ((try simp only [tput, List.set_cons_zero, List.set_cons_succ]); exact rfl)); clear cw Cw
            repeat' (first
              | ((first | (with_reducible refine WL_do fun Cw cw => ?_) | ((with_reducible apply WP_do); intro Cw cw)); (focus (first | ((with_reducible first | apply O_move | apply O_assign | apply O_pickV | apply O_extract); (repeat rfl); (first | (with_reducible exact cw) | ((with_reducible apply cw); (focus ((try simp only [zp]); exact rfl)); clear cw Cw))) | ((with_reducible first | apply O_load | apply O_bin | apply O_indexAddr | apply O_len); (repeat rfl); simp (disch := omega) only [go_sem, ↓hli, ↓hlo, hz3]; (first | (with_reducible exact cw) | ((with_reducible apply cw); (focus ((try simp only [zp]); exact rfl)); clear cw Cw))) | ((with_reducible first | apply O_buildSlice | apply O_append); (repeat rfl); (try simp only [zc, zo, Nat.reduceBEq]); simp (disch := omega) only [go_sem, ↓hli, ↓hlo, hz3]; (first | (with_reducible exact cw) | ((with_reducible apply cw); (focus ((try simp only [zp]); exact rfl)); clear cw Cw))))); (try ((with_reducible apply eq_id); (focus ((try simp only [zp]); exact rfl)))))
              | ((first | ((with_reducible first | apply WL_if | apply WP_if); (focus rfl)) | ((with_reducible first | apply WL_un | apply WP_un); (focus rfl))); (focus ((try simp only [zp]); exact rfl)))
              | ((with_reducible first | refine WL_nil (hK _ _ ?_) | refine WP_nil (hK _ _ ?_)); clear hK K)
              | ((with_reducible apply WP_pick); (focus rfl); (focus rfl); (focus rfl); (focus ((try simp only [zp]); exact rfl)); (focus ((try simp only [zp]); exact rfl)))
              | ((with_reducible first | refine T_reg_seq fun K hK => ?_ | refine T_reg_end fun K hK => ?_); simp only [zl])
              | ((with_reducible first | refine T_pure_seq ?_ ?_ (fun K hK => ?_) | refine T_pure_end ?_ ?_ (fun K hK => ?_)); (focus kernel_rfl); (focus kernel_rfl); simp only [zl])
              | ((with_reducible first | apply T_cond_seq | apply T_cond); (focus rfl))
              | (intro hg; (first | (simp only [zb] at hg; done) | ((try simp only [zb, eq_self] at hg); (have hh : True := hg); clear hh hg) | ((try simp only [zb] at hg); (try (have hh := hg; simp only [hh]; clear hh)); (try simp only [zg, zq, ne_eq, gt_iff_lt, ge_iff_le] at hg); (try (exfalso; omega)))))
              | with_reducible first | refine T_seq_assoc ?_ | refine T_skip_seq ?_ | refine T_ret_seq ?_ | refine T_exit_seq ?_ | refine T_ret ?_ | refine T_skip ?_ | refine T_exit ?_ | refine T_block_seq fun Kb hKb => ?_ | refine T_block ?_
              | (simp only [TX.inBlock, TX.then, zi, Nat.reduceEqDiff])
              | ((with_reducible first | refine hR _ _ (fun C cc => ?_) | refine hN _ _ (fun C cc => ?_)); simp (disch := omega) only [go_sem, ↓hli, ↓hlo, hz3]; (with_reducible apply cc); clear cc C)
              | (with_reducible apply_assumption -exfalso -symm only [*]))
            refine ⟨(i + 1, τ5, lab5, vi, _, lsJ, il, olJ, true), ?_, ⟨rfl, rfl, rfl, rfl, rfl, rfl, rfl, rfl, trivial⟩, ⟨?_, ⟨hp5, hJ.qi.grow hg5 (by simp), hJ.qo.grow hg5 (by simp), hJ.same⟩, ?_⟩, rfl⟩ <;> (try dsimp only) <;> omega
          · have hli := lenQ hJ.qi
            have hlo := lenQ hJ.qo
            refine WL_do fun Cw cw => ?_
            (with_reducible first | apply O_callF | apply O_call); (repeat rfl); (try simp only [List.nil_append, List.append_nil, List.cons_append])
            refine (put_walk hJ.room i 2 (nth l.l i)).mono ?_
            rw [putQ0 (by omega) (by omega) (by omega)]
            rintro u5 τ5 ⟨rfl, lab5, hp5, hg5⟩
            have hz3 : decide ((il.length : Int) - olJ.length < depth) = true := decide_eq_true (by omega)
            obtain ⟨vi', τ6, happ, hqi6, hg6⟩ := appQ (hJ.qi.grow hg5 (by simp)) (by omega) (nth l.l i)
            (with_reducible apply cw); (focus ((try simp only [tput, List.set_cons_zero, List.set_cons_succ]); exact rfl)); clear cw Cw
            repeat' (first
              | ((first | (with_reducible refine WL_do fun Cw cw => ?_) | ((with_reducible apply WP_do); intro Cw cw)); (focus (first | ((with_reducible first | apply O_move | apply O_assign | apply O_pickV | apply O_extract); (repeat rfl); (first | (with_reducible exact cw) | ((with_reducible apply cw); (focus ((try simp only [zp]); exact rfl)); clear cw Cw))) | ((with_reducible first | apply O_load | apply O_bin | apply O_indexAddr | apply O_len); (repeat rfl); simp (disch := omega) only [go_sem, ↓hli, ↓hlo, hz3, ↓happ]; (first | (with_reducible exact cw) | ((with_reducible apply cw); (focus ((try simp only [zp]); exact rfl)); clear cw Cw))) | ((with_reducible first | apply O_buildSlice | apply O_append); (repeat rfl); (try simp only [zc, zo, Nat.reduceBEq]); simp (disch := omega) only [go_sem, ↓hli, ↓hlo, hz3, ↓happ]; (first | (with_reducible exact cw) | ((with_reducible apply cw); (focus ((try simp only [zp]); exact rfl)); clear cw Cw))))); (try ((with_reducible apply eq_id); (focus ((try simp only [zp]); exact rfl)))))
              | ((first | ((with_reducible first | apply WL_if | apply WP_if); (focus rfl)) | ((with_reducible first | apply WL_un | apply WP_un); (focus rfl))); (focus ((try simp only [zp]); exact rfl)))
              | ((with_reducible first | refine WL_nil (hK _ _ ?_) | refine WP_nil (hK _ _ ?_)); clear hK K)
              | ((with_reducible apply WP_pick); (focus rfl); (focus rfl); (focus rfl); (focus ((try simp only [zp]); exact rfl)); (focus ((try simp only [zp]); exact rfl)))
              | ((with_reducible first | refine T_reg_seq fun K hK => ?_ | refine T_reg_end fun K hK => ?_); simp only [zl])
              | ((with_reducible first | refine T_pure_seq ?_ ?_ (fun K hK => ?_) | refine T_pure_end ?_ ?_ (fun K hK => ?_)); (focus kernel_rfl); (focus kernel_rfl); simp only [zl])
              | ((with_reducible first | apply T_cond_seq | apply T_cond); (focus rfl))
              | (intro hg; (first | (simp only [zb] at hg; done) | ((try simp only [zb, eq_self] at hg); (have hh : True := hg); clear hh hg) | ((try simp only [zb] at hg); (try (have hh := hg; simp only [hh]; clear hh)); (try simp only [zg, zq, ne_eq, gt_iff_lt, ge_iff_le] at hg); (try (exfalso; omega)))))
              | with_reducible first | refine T_seq_assoc ?_ | refine T_skip_seq ?_ | refine T_ret_seq ?_ | refine T_exit_seq ?_ | refine T_ret ?_ | refine T_skip ?_ | refine T_exit ?_ | refine T_block_seq fun Kb hKb => ?_ | refine T_block ?_
              | (simp only [TX.inBlock, TX.then, zi, Nat.reduceEqDiff])
              | ((with_reducible first | refine hR _ _ (fun C cc => ?_) | refine hN _ _ (fun C cc => ?_)); simp (disch := omega) only [go_sem, ↓hli, ↓hlo, hz3, ↓happ]; (with_reducible apply cc); clear cc C)
              | (with_reducible apply_assumption -exfalso -symm only [*]))
            refine ⟨(i + 1, τ6, _, vi', _, lsJ ++ [nth l.l i], il ++ [nth l.l i], olJ, _), ?_, ⟨rfl, rfl, rfl, rfl, rfl, rfl, rfl, rfl, trivial⟩, ⟨?_, ⟨hp5.grow hg6 (fun n h1 h2 => by simp at h2 ⊢; omega), hqi6, (hJ.qo.grow hg5 (by simp)).grow hg6 (by simp), by rw [hJ.same]; simp⟩, ?_⟩, rfl⟩ <;> (try dsimp only) <;> (try simp only [List.length_append, List.length_singleton]) <;> omega
        · have hJ := hI
          by_cases hrd1 : i < reads.l.length
          · have hrd2 : nth reads.l i = false := by cases hb : nth reads.l i with
              | false => rfl
              | true => exact absurd ⟨hrd1, hb⟩ hrd
            obtain ⟨lsJ, olJ, rfl, rfl⟩ : ∃ x y, x = ls ∧ y = ol := ⟨_, _, rfl, rfl⟩
            repeat' (first
              | ((first | (with_reducible refine WL_do fun Cw cw => ?_) | ((with_reducible apply WP_do); intro Cw cw)); (focus (first | ((with_reducible first | apply O_move | apply O_assign | apply O_pickV | apply O_extract); (repeat rfl); (first | (with_reducible exact cw) | ((with_reducible apply cw); (focus ((try simp only [zp]); exact rfl)); clear cw Cw))) | ((with_reducible first | apply O_load | apply O_bin | apply O_indexAddr | apply O_len); (repeat rfl); simp (disch := omega) only [go_sem, hrd2]; (first | (with_reducible exact cw) | ((with_reducible apply cw); (focus ((try simp only [zp]); exact rfl)); clear cw Cw))) | ((with_reducible first | apply O_buildSlice | apply O_append); (repeat rfl); (try simp only [zc, zo, Nat.reduceBEq]); simp (disch := omega) only [go_sem, hrd2]; (first | (with_reducible exact cw) | ((with_reducible apply cw); (focus ((try simp only [zp]); exact rfl)); clear cw Cw))))); (try ((with_reducible apply eq_id); (focus ((try simp only [zp]); exact rfl)))))
              | ((first | ((with_reducible first | apply WL_if | apply WP_if); (focus rfl)) | ((with_reducible first | apply WL_un | apply WP_un); (focus rfl))); (focus ((try simp only [zp]); exact rfl)))
              | ((with_reducible first | refine WL_nil (hK _ _ ?_) | refine WP_nil (hK _ _ ?_)); clear hK K)
              | ((with_reducible apply WP_pick); (focus rfl); (focus rfl); (focus rfl); (focus ((try simp only [zp]); exact rfl)); (focus ((try simp only [zp]); exact rfl)))
              | ((with_reducible first | refine T_reg_seq fun K hK => ?_ | refine T_reg_end fun K hK => ?_); simp only [zl])
              | ((with_reducible first | refine T_pure_seq ?_ ?_ (fun K hK => ?_) | refine T_pure_end ?_ ?_ (fun K hK => ?_)); (focus kernel_rfl); (focus kernel_rfl); simp only [zl])
              | ((with_reducible first | apply T_cond_seq | apply T_cond); (focus rfl))
              | (intro hg; (first | (simp only [zb] at hg; done) | ((try simp only [zb, eq_self] at hg); (have hh : True := hg); clear hh hg) | ((try simp only [zb] at hg); (try (have hh := hg; simp only [hh]; clear hh)); (try simp only [zg, zq, ne_eq, gt_iff_lt, ge_iff_le] at hg); (try (exfalso; omega)))))
              | with_reducible first | refine T_seq_assoc ?_ | refine T_skip_seq ?_ | refine T_ret_seq ?_ | refine T_exit_seq ?_ | refine T_ret ?_ | refine T_skip ?_ | refine T_exit ?_ | refine T_block_seq fun Kb hKb => ?_ | refine T_block ?_
              | (simp only [TX.inBlock, TX.then, zi, Nat.reduceEqDiff])
              | ((with_reducible first | refine hR _ _ (fun C cc => ?_) | refine hN _ _ (fun C cc => ?_)); simp (disch := omega) only [go_sem, hrd2]; (with_reducible apply cc); clear cc C)
              | (with_reducible apply_assumption -exfalso -symm only [*]))
            by_cases hfull : (lsJ.length : Int) ≥ depth
            · have hli := lenQ hJ.qi
              have hlo := lenQ hJ.qo
              refine WL_do fun Cw cw => ?_
              (with_reducible first | apply O_callF | apply O_call); (repeat rfl); (try simp only [List.nil_append, List.append_nil, List.cons_append])
              refine (put_walk hJ.room i 2 (nth l.l i)).mono ?_
              rw [putQ1 (by omega) (by omega) hfull]
              rintro u5 τ5 ⟨rfl, lab5, hp5, hg5⟩
              have hz3 : decide ((il.length : Int) - olJ.length < depth) = false := decide_eq_false (by omega)
              (with_reducible apply cw); (focus ((try simp only [tput, List.set_cons_zero, List.set_cons_succ]); exact rfl)); clear cw Cw
              repeat' (first
                | ((first | (with_reducible refine WL_do fun Cw cw => ?_) | ((with_reducible apply WP_do); intro Cw cw)); (focus (first | ((with_reducible first | apply O_move | apply O_assign | apply O_pickV | apply O_extract); (repeat rfl); (first | (with_reducible exact cw) | ((with_reducible apply cw); (focus ((try simp only [zp]); exact rfl)); clear cw Cw))) | ((with_reducible first | apply O_load | apply O_bin | apply O_indexAddr | apply O_len); (repeat rfl); simp (disch := omega) only [go_sem, ↓hli, ↓hlo, hz3]; (first | (with_reducible exact cw) | ((with_reducible apply cw); (focus ((try simp only [zp]); exact rfl)); clear cw Cw))) | ((with_reducible first | apply O_buildSlice | apply O_append); (repeat rfl); (try simp only [zc, zo, Nat.reduceBEq]); simp (disch := omega) only [go_sem, ↓hli, ↓hlo, hz3]; (first | (with_reducible exact cw) | ((with_reducible apply cw); (focus ((try simp only [zp]); exact rfl)); clear cw Cw))))); (try ((with_reducible apply eq_id); (focus ((try simp only [zp]); exact rfl)))))
                | ((first | ((with_reducible first | apply WL_if | apply WP_if); (focus rfl)) | ((with_reducible first | apply WL_un | apply WP_un); (focus rfl))); (focus ((try simp only [zp]); exact rfl)))
                | ((with_reducible first | refine WL_nil (hK _ _ ?_) | refine WP_nil (hK _ _ ?_)); clear hK K)
                | ((with_reducible apply WP_pick); (focus rfl); (focus rfl); (focus rfl); (focus ((try simp only [zp]); exact rfl)); (focus ((try simp only [zp]); exact rfl)))
                | ((with_reducible first | refine T_reg_seq fun K hK => ?_ | refine T_reg_end fun K hK => ?_); simp only [zl])
                | ((with_reducible first | refine T_pure_seq ?_ ?_ (fun K hK => ?_) | refine T_pure_end ?_ ?_ (fun K hK => ?_)); (focus kernel_rfl); (focus kernel_rfl); simp only [zl])
                | ((with_reducible first | apply T_cond_seq | apply T_cond); (focus rfl))
                | (intro hg; (first | (simp only [zb] at hg; done) | ((try simp only [zb, eq_self] at hg); (have hh : True := hg); clear hh hg) | ((try simp only [zb] at hg); (try (have hh := hg; simp only [hh]; clear hh)); (try simp only [zg, zq, ne_eq, gt_iff_lt, ge_iff_le] at hg); (try (exfalso; omega)))))
                | with_reducible first | refine T_seq_assoc ?_ | refine T_skip_seq ?_ | refine T_ret_seq ?_ | refine T_exit_seq ?_ | refine T_ret ?_ | refine T_skip ?_ | refine T_exit ?_ | refine T_block_seq fun Kb hKb => ?_ | refine T_block ?_
                | (simp only [TX.inBlock, TX.then, zi, Nat.reduceEqDiff])
                | ((with_reducible first | refine hR _ _ (fun C cc => ?_) | refine hN _ _ (fun C cc => ?_)); simp (disch := omega) only [go_sem, ↓hli, ↓hlo, hz3]; (with_reducible apply cc); clear cc C)
                | (with_reducible apply_assumption -exfalso -symm only [*]))
              refine ⟨(i + 1, τ5, lab5, vi, _, lsJ, il, olJ, true), ?_, ⟨rfl, rfl, rfl, rfl, rfl, rfl, rfl, rfl, trivial⟩, ⟨?_, ⟨hp5, hJ.qi.grow hg5 (by simp), hJ.qo.grow hg5 (by simp), hJ.same⟩, ?_⟩, rfl⟩ <;> (try dsimp only) <;> omega
            · have hli := lenQ hJ.qi
              have hlo := lenQ hJ.qo
              refine WL_do fun Cw cw => ?_
              (with_reducible first | apply O_callF | apply O_call); (repeat rfl); (try simp only [List.nil_append, List.append_nil, List.cons_append])
              refine (put_walk hJ.room i 2 (nth l.l i)).mono ?_
              rw [putQ0 (by omega) (by omega) (by omega)]
              rintro u5 τ5 ⟨rfl, lab5, hp5, hg5⟩
              have hz3 : decide ((il.length : Int) - olJ.length < depth) = true := decide_eq_true (by omega)
              obtain ⟨vi', τ6, happ, hqi6, hg6⟩ := appQ (hJ.qi.grow hg5 (by simp)) (by omega) (nth l.l i)
              (with_reducible apply cw); (focus ((try simp only [tput, List.set_cons_zero, List.set_cons_succ]); exact rfl)); clear cw Cw
              repeat' (first
                | ((first | (with_reducible refine WL_do fun Cw cw => ?_) | ((with_reducible apply WP_do); intro Cw cw)); (focus (first | ((with_reducible first | apply O_move | apply O_assign | apply O_pickV | apply O_extract); (repeat rfl); (first | (with_reducible exact cw) | ((with_reducible apply cw); (focus ((try simp only [zp]); exact rfl)); clear cw Cw))) | ((with_reducible first | apply O_load | apply O_bin | apply O_indexAddr | apply O_len); (repeat rfl); simp (disch := omega) only [go_sem, ↓hli, ↓hlo, hz3, ↓happ]; (first | (with_reducible exact cw) | ((with_reducible apply cw); (focus ((try simp only [zp]); exact rfl)); clear cw Cw))) | ((with_reducible first | apply O_buildSlice | apply O_append); (repeat rfl); (try simp only [zc, zo, Nat.reduceBEq]); simp (disch := omega) only [go_sem, ↓hli, ↓hlo, hz3, ↓happ]; (first | (with_reducible exact cw) | ((with_reducible apply cw); (focus ((try simp only [zp]); exact rfl)); clear cw Cw))))); (try ((with_reducible apply eq_id); (focus ((try simp only [zp]); exact rfl)))))
                | ((first | ((with_reducible first | apply WL_if | apply WP_if); (focus rfl)) | ((with_reducible first | apply WL_un | apply WP_un); (focus rfl))); (focus ((try simp only [zp]); exact rfl)))
                | ((with_reducible first | refine WL_nil (hK _ _ ?_) | refine WP_nil (hK _ _ ?_)); clear hK K)
                | ((with_reducible apply WP_pick); (focus rfl); (focus rfl); (focus rfl); (focus ((try simp only [zp]); exact rfl)); (focus ((try simp only [zp]); exact rfl)))
                | ((with_reducible first | refine T_reg_seq fun K hK => ?_ | refine T_reg_end fun K hK => ?_); simp only [zl])
                | ((with_reducible first | refine T_pure_seq ?_ ?_ (fun K hK => ?_) | refine T_pure_end ?_ ?_ (fun K hK => ?_)); (focus kernel_rfl); (focus kernel_rfl); simp only [zl])
                | ((with_reducible first | apply T_cond_seq | apply T_cond); (focus rfl))
                | (intro hg; (first | (simp only [zb] at hg; done) | ((try simp only [zb, eq_self] at hg); (have hh : True := hg); clear hh hg) | ((try simp only [zb] at hg); (try (have hh := hg; simp only [hh]; clear hh)); (try simp only [zg, zq, ne_eq, gt_iff_lt, ge_iff_le] at hg); (try (exfalso; omega)))))
                | with_reducible first | refine T_seq_assoc ?_ | refine T_skip_seq ?_ | refine T_ret_seq ?_ | refine T_exit_seq ?_ | refine T_ret ?_ | refine T_skip ?_ | refine T_exit ?_ | refine T_block_seq fun Kb hKb => ?_ | refine T_block ?_
                | (simp only [TX.inBlock, TX.then, zi, Nat.reduceEqDiff])
                | ((with_reducible first | refine hR _ _ (fun C cc => ?_) | refine hN _ _ (fun C cc => ?_)); simp (disch := omega) only [go_sem, ↓hli, ↓hlo, hz3, ↓happ]; (with_reducible apply cc); clear cc C)
                | (with_reducible apply_assumption -exfalso -symm only [*]))
              refine ⟨(i + 1, τ6, _, vi', _, lsJ ++ [nth l.l i], il ++ [nth l.l i], olJ, _), ?_, ⟨rfl, rfl, rfl, rfl, rfl, rfl, rfl, rfl, trivial⟩, ⟨?_, ⟨hp5.grow hg6 (fun n h1 h2 => by simp at h2 ⊢; omega), hqi6, (hJ.qo.grow hg5 (by simp)).grow hg6 (by simp), by rw [hJ.same]; simp⟩, ?_⟩, rfl⟩ <;> (try dsimp only) <;> (try simp only [List.length_append, List.length_singleton]) <;> omega
          · obtain ⟨lsJ, olJ, rfl, rfl⟩ : ∃ x y, x = ls ∧ y = ol := ⟨_, _, rfl, rfl⟩
            repeat' (first
              | ((first | (with_reducible refine WL_do fun Cw cw => ?_) | ((with_reducible apply WP_do); intro Cw cw)); (focus (first | ((with_reducible first | apply O_move | apply O_assign | apply O_pickV | apply O_extract); (repeat rfl); (first | (with_reducible exact cw) | ((with_reducible apply cw); (focus ((try simp only [zp]); exact rfl)); clear cw Cw))) | ((with_reducible first | apply O_load | apply O_bin | apply O_indexAddr | apply O_len); (repeat rfl); simp (disch := omega) only [go_sem]; (first | (with_reducible exact cw) | ((with_reducible apply cw); (focus ((try simp only [zp]); exact rfl)); clear cw Cw))) | ((with_reducible first | apply O_buildSlice | apply O_append); (repeat rfl); (try simp only [zc, zo, Nat.reduceBEq]); simp (disch := omega) only [go_sem]; (first | (with_reducible exact cw) | ((with_reducible apply cw); (focus ((try simp only [zp]); exact rfl)); clear cw Cw))))); (try ((with_reducible apply eq_id); (focus ((try simp only [zp]); exact rfl)))))
              | ((first | ((with_reducible first | apply WL_if | apply WP_if); (focus rfl)) | ((with_reducible first | apply WL_un | apply WP_un); (focus rfl))); (focus ((try simp only [zp]); exact rfl)))
              | ((with_reducible first | refine WL_nil (hK _ _ ?_) | refine WP_nil (hK _ _ ?_)); clear hK K)
              | ((with_reducible apply WP_pick); (focus rfl); (focus rfl); (focus rfl); (focus ((try simp only [zp]); exact rfl)); (focus ((try simp only [zp]); exact rfl)))
              | ((with_reducible first | refine T_reg_seq fun K hK => ?_ | refine T_reg_end fun K hK => ?_); simp only [zl])
              | ((with_reducible first | refine T_pure_seq ?_ ?_ (fun K hK => ?_) | refine T_pure_end ?_ ?_ (fun K hK => ?_)); (focus kernel_rfl); (focus kernel_rfl); simp only [zl])
              | ((with_reducible first | apply T_cond_seq | apply T_cond); (focus rfl))
              | (intro hg; (first | (simp only [zb] at hg; done) | ((try simp only [zb, eq_self] at hg); (have hh : True := hg); clear hh hg) | ((try simp only [zb] at hg); (try (have hh := hg; simp only [hh]; clear hh)); (try simp only [zg, zq, ne_eq, gt_iff_lt, ge_iff_le] at hg); (try (exfalso; omega)))))
              | with_reducible first | refine T_seq_assoc ?_ | refine T_skip_seq ?_ | refine T_ret_seq ?_ | refine T_exit_seq ?_ | refine T_ret ?_ | refine T_skip ?_ | refine T_exit ?_ | refine T_block_seq fun Kb hKb => ?_ | refine T_block ?_
              | (simp only [TX.inBlock, TX.then, zi, Nat.reduceEqDiff])
              | ((with_reducible first | refine hR _ _ (fun C cc => ?_) | refine hN _ _ (fun C cc => ?_)); simp (disch := omega) only [go_sem]; (with_reducible apply cc); clear cc C)
              | (with_reducible apply_assumption -exfalso -symm only [*]))
            by_cases hfull : (lsJ.length : Int) ≥ depth
            · have hli := lenQ hJ.qi
              have hlo := lenQ hJ.qo
              refine WL_do fun Cw cw => ?_
              (with_reducible first | apply O_callF | apply O_call); (repeat rfl); (try simp only [List.nil_append, List.append_nil, List.cons_append])
              refine (put_walk hJ.room i 2 (nth l.l i)).mono ?_
              rw [putQ1 (by omega) (by omega) hfull]
              rintro u5 τ5 ⟨rfl, lab5, hp5, hg5⟩
              have hz3 : decide ((il.length : Int) - olJ.length < depth) = false := decide_eq_false (by omega)
              (with_reducible apply cw); (focus ((try simp only [tput, List.set_cons_zero, List.set_cons_succ]); exact rfl)); clear cw Cw
              repeat' (first
                | ((first | (with_reducible refine WL_do fun Cw cw => ?_) | ((with_reducible apply WP_do); intro Cw cw)); (focus (first | ((with_reducible first | apply O_move | apply O_assign | apply O_pickV | apply O_extract); (repeat rfl); (first | (with_reducible exact cw) | ((with_reducible apply cw); (focus ((try simp only [zp]); exact rfl)); clear cw Cw))) | ((with_reducible first | apply O_load | apply O_bin | apply O_indexAddr | apply O_len); (repeat rfl); simp (disch := omega) only [go_sem, ↓hli, ↓hlo, hz3]; (first | (with_reducible exact cw) | ((with_reducible apply cw); (focus ((try simp only [zp]); exact rfl)); clear cw Cw))) | ((with_reducible first | apply O_buildSlice | apply O_append); (repeat rfl); (try simp only [zc, zo, Nat.reduceBEq]); simp (disch := omega) only [go_sem, ↓hli, ↓hlo, hz3]; (first | (with_reducible exact cw) | ((with_reducible apply cw); (focus ((try simp only [zp]); exact rfl)); clear cw Cw))))); (try ((with_reducible apply eq_id); (focus ((try simp only [zp]); exact rfl)))))
                | ((first | ((with_reducible first | apply WL_if | apply WP_if); (focus rfl)) | ((with_reducible first | apply WL_un | apply WP_un); (focus rfl))); (focus ((try simp only [zp]); exact rfl)))
                | ((with_reducible first | refine WL_nil (hK _ _ ?_) | refine WP_nil (hK _ _ ?_)); clear hK K)
                | ((with_reducible apply WP_pick); (focus rfl); (focus rfl); (focus rfl); (focus ((try simp only [zp]); exact rfl)); (focus ((try simp only [zp]); exact rfl)))
                | ((with_reducible first | refine T_reg_seq fun K hK => ?_ | refine T_reg_end fun K hK => ?_); simp only [zl])
                | ((with_reducible first | refine T_pure_seq ?_ ?_ (fun K hK => ?_) | refine T_pure_end ?_ ?_ (fun K hK => ?_)); (focus kernel_rfl); (focus kernel_rfl); simp only [zl])
                | ((with_reducible first | apply T_cond_seq | apply T_cond); (focus rfl))
                | (intro hg; (first | (simp only [zb] at hg; done) | ((try simp only [zb, eq_self] at hg); (have hh : True := hg); clear hh hg) | ((try simp only [zb] at hg); (try (have hh := hg; simp only [hh]; clear hh)); (try simp only [zg, zq, ne_eq, gt_iff_lt, ge_iff_le] at hg); (try (exfalso; omega)))))
                | with_reducible first | refine T_seq_assoc ?_ | refine T_skip_seq ?_ | refine T_ret_seq ?_ | refine T_exit_seq ?_ | refine T_ret ?_ | refine T_skip ?_ | refine T_exit ?_ | refine T_block_seq fun Kb hKb => ?_ | refine T_block ?_
                | (simp only [TX.inBlock, TX.then, zi, Nat.reduceEqDiff])
                | ((with_reducible first | refine hR _ _ (fun C cc => ?_) | refine hN _ _ (fun C cc => ?_)); simp (disch := omega) only [go_sem, ↓hli, ↓hlo, hz3]; (with_reducible apply cc); clear cc C)
                | (with_reducible apply_assumption -exfalso -symm only [*]))
              refine ⟨(i + 1, τ5, lab5, vi, _, lsJ, il, olJ, true), ?_, ⟨rfl, rfl, rfl, rfl, rfl, rfl, rfl, rfl, trivial⟩, ⟨?_, ⟨hp5, hJ.qi.grow hg5 (by simp), hJ.qo.grow hg5 (by simp), hJ.same⟩, ?_⟩, rfl⟩ <;> (try dsimp only) <;> omega
            · have hli := lenQ hJ.qi
              have hlo := lenQ hJ.qo
              refine WL_do fun Cw cw => ?_
              (with_reducible first | apply O_callF | apply O_call); (repeat rfl); (try simp only [List.nil_append, List.append_nil, List.cons_append])
              refine (put_walk hJ.room i 2 (nth l.l i)).mono ?_
              rw [putQ0 (by omega) (by omega) (by omega)]
              rintro u5 τ5 ⟨rfl, lab5, hp5, hg5⟩
              have hz3 : decide ((il.length : Int) - olJ.length < depth) = true := decide_eq_true (by omega)
              obtain ⟨vi', τ6, happ, hqi6, hg6⟩ := appQ (hJ.qi.grow hg5 (by simp)) (by omega) (nth l.l i)
              (with_reducible apply cw); (focus ((try simp only [tput, List.set_cons_zero, List.set_cons_succ]); exact rfl)); clear cw Cw
              repeat' (first
                | ((first | (with_reducible refine WL_do fun Cw cw => ?_) | ((with_reducible apply WP_do); intro Cw cw)); (focus (first | ((with_reducible first | apply O_move | apply O_assign | apply O_pickV | apply O_extract); (repeat rfl); (first | (with_reducible exact cw) | ((with_reducible apply cw); (focus ((try simp only [zp]); exact rfl)); clear cw Cw))) | ((with_reducible first | apply O_load | apply O_bin | apply O_indexAddr | apply O_len); (repeat rfl); simp (disch := omega) only [go_sem, ↓hli, ↓hlo, hz3, ↓happ]; (first | (with_reducible exact cw) | ((with_reducible apply cw); (focus ((try simp only [zp]); exact rfl)); clear cw Cw))) | ((with_reducible first | apply O_buildSlice | apply O_append); (repeat rfl); (try simp only [zc, zo, Nat.reduceBEq]); simp (disch := omega) only [go_sem, ↓hli, ↓hlo, hz3, ↓happ]; (first | (with_reducible exact cw) | ((with_reducible apply cw); (focus ((try simp only [zp]); exact rfl)); clear cw Cw))))); (try ((with_reducible apply eq_id); (focus ((try simp only [zp]); exact rfl)))))
                | ((first | ((with_reducible first | apply WL_if | apply WP_if); (focus rfl)) | ((with_reducible first | apply WL_un | apply WP_un); (focus rfl))); (focus ((try simp only [zp]); exact rfl)))
                | ((with_reducible first | refine WL_nil (hK _ _ ?_) | refine WP_nil (hK _ _ ?_)); clear hK K)
                | ((with_reducible apply WP_pick); (focus rfl); (focus rfl); (focus rfl); (focus ((try simp only [zp]); exact rfl)); (focus ((try simp only [zp]); exact rfl)))
                | ((with_reducible first | refine T_reg_seq fun K hK => ?_ | refine T_reg_end fun K hK => ?_); simp only [zl])
                | ((with_reducible first | refine T_pure_seq ?_ ?_ (fun K hK => ?_) | refine T_pure_end ?_ ?_ (fun K hK => ?_)); (focus kernel_rfl); (focus kernel_rfl); simp only [zl])
                | ((with_reducible first | apply T_cond_seq | apply T_cond); (focus rfl))
                | (intro hg; (first | (simp only [zb] at hg; done) | ((try simp only [zb, eq_self] at hg); (have hh : True := hg); clear hh hg) | ((try simp only [zb] at hg); (try (have hh := hg; simp only [hh]; clear hh)); (try simp only [zg, zq, ne_eq, gt_iff_lt, ge_iff_le] at hg); (try (exfalso; omega)))))
                | with_reducible first | refine T_seq_assoc ?_ | refine T_skip_seq ?_ | refine T_ret_seq ?_ | refine T_exit_seq ?_ | refine T_ret ?_ | refine T_skip ?_ | refine T_exit ?_ | refine T_block_seq fun Kb hKb => ?_ | refine T_block ?_
                | (simp only [TX.inBlock, TX.then, zi, Nat.reduceEqDiff])
                | ((with_reducible first | refine hR _ _ (fun C cc => ?_) | refine hN _ _ (fun C cc => ?_)); simp (disch := omega) only [go_sem, ↓hli, ↓hlo, hz3, ↓happ]; (with_reducible apply cc); clear cc C)
                | (with_reducible apply_assumption -exfalso -symm only [*]))
              refine ⟨(i + 1, τ6, _, vi', _, lsJ ++ [nth l.l i], il ++ [nth l.l i], olJ, _), ?_, ⟨rfl, rfl, rfl, rfl, rfl, rfl, rfl, rfl, trivial⟩, ⟨?_, ⟨hp5.grow hg6 (fun n h1 h2 => by simp at h2 ⊢; omega), hqi6, (hJ.qo.grow hg5 (by simp)).grow hg6 (by simp), by rw [hJ.same]; simp⟩, ?_⟩, rfl⟩ <;> (try dsimp only) <;> (try simp only [List.length_append, List.length_singleton]) <;> omega
      · have hlen : (il.length : Int) = ol.length + ls.length := by rw [hI.same, List.length_append]; omega
        have hli := lenQ hI.qi
        have hlo := lenQ hI.qo
        repeat' (first
          | ((first | (with_reducible refine WL_do fun Cw cw => ?_) | ((with_reducible apply WP_do); intro Cw cw)); (focus (first | ((with_reducible first | apply O_move | apply O_assign | apply O_pickV | apply O_extract); (repeat rfl); (first | (with_reducible exact cw) | ((with_reducible apply cw); (focus ((try simp only [zp]); exact rfl)); clear cw Cw))) | ((with_reducible first | apply O_load | apply O_bin | apply O_indexAddr | apply O_len); (repeat rfl); simp (disch := omega) only [go_sem, ↓hli, ↓hlo]; (first | (with_reducible exact cw) | ((with_reducible apply cw); (focus ((try simp only [zp]); exact rfl)); clear cw Cw))) | ((with_reducible first | apply O_buildSlice | apply O_append); (repeat rfl); (try simp only [zc, zo, Nat.reduceBEq]); simp (disch := omega) only [go_sem, ↓hli, ↓hlo]; (first | (with_reducible exact cw) | ((with_reducible apply cw); (focus ((try simp only [zp]); exact rfl)); clear cw Cw))))); (try ((with_reducible apply eq_id); (focus ((try simp only [zp]); exact rfl)))))
          | ((first | ((with_reducible first | apply WL_if | apply WP_if); (focus rfl)) | ((with_reducible first | apply WL_un | apply WP_un); (focus rfl))); (focus ((try simp only [zp]); exact rfl)))
          | ((with_reducible first | refine WL_nil (hK _ _ ?_) | refine WP_nil (hK _ _ ?_)); clear hK K)
          | ((with_reducible apply WP_pick); (focus rfl); (focus rfl); (focus rfl); (focus ((try simp only [zp]); exact rfl)); (focus ((try simp only [zp]); exact rfl)))
          | ((with_reducible first | refine T_reg_seq fun K hK => ?_ | refine T_reg_end fun K hK => ?_); simp only [zl])
          | ((with_reducible first | refine T_pure_seq ?_ ?_ (fun K hK => ?_) | refine T_pure_end ?_ ?_ (fun K hK => ?_)); (focus kernel_rfl); (focus kernel_rfl); simp only [zl])
          | ((with_reducible first | apply T_cond_seq | apply T_cond); (focus rfl))
          | (intro hg; (first | (simp only [zb] at hg; done) | ((try simp only [zb, eq_self] at hg); (have hh : True := hg); clear hh hg) | ((try simp only [zb] at hg); (try (have hh := hg; simp only [hh]; clear hh)); (try simp only [zg, zq, ne_eq, gt_iff_lt, ge_iff_le] at hg); (try (exfalso; omega)))))
          | with_reducible first | refine T_seq_assoc ?_ | refine T_skip_seq ?_ | refine T_ret_seq ?_ | refine T_exit_seq ?_ | refine T_ret ?_ | refine T_skip ?_ | refine T_exit ?_ | refine T_block_seq fun Kb hKb => ?_ | refine T_block ?_
          | (simp only [TX.inBlock, TX.then, zi, Nat.reduceEqDiff])
          | ((with_reducible first | refine hR _ _ (fun C cc => ?_) | refine hN _ _ (fun C cc => ?_)); simp (disch := omega) only [go_sem, ↓hli, ↓hlo]; (with_reducible apply cc); clear cc C)
          | (with_reducible apply_assumption -exfalso -symm only [*]))
        refine T_each (α := Nat) (fun k => [none, none, none, none, none, none, none, some (some (.ptr r 0)), none, some (some (vi)), some (some (vo)), none, none, none, none, none, none, some (some (.int .i64 k)), none, none, none, none, none, none, none, none, none, none, none, none, none, none, none, none, none, none, none, none, none, none, none, none, none, none, none, none, none, none, none, none, none, none, none, none, none, none, none, none, none, none, none, none, none, none, none, none, none, none, none, none, none, none, none, none, none, none, none, none, none, none, none, none, none, none, none, none, none, none, none, none, none, none, none, none, none, none, none, none, none, none, none, none, none, none, none, none, none, none, none, none, none, none, none, none, none, none, none, none, none, none, none, none, none, none, none, none, none, none, none, none, none, none, none, none, none, none, none, none, none, none, none, none, none]) (fun k => k ≤ ol.length) (fun k => ol.length - k) (fun k => τ) ?_ ?_
        · refine ⟨(0), ⟨rfl, rfl, rfl, rfl, trivial⟩, ?_, rfl⟩
          omega
        · rintro k q hk
          show Tw _ _ _ _ ([q 0, q 1, q 2, q 3, q 4, q 5, q 6, some (.ptr r 0), q 8, some (vi), some (vo), q 11, q 12, q 13, q 14, q 15, q 16, some (.int .i64 k), q 18, q 19, q 20, q 21, q 22, q 23, q 24, q 25, q 26, q 27, q 28, q 29, q 30, q 31, q 32, q 33, q 34, q 35, q 36, q 37, q 38, q 39, q 40, q 41, q 42, q 43, q 44, q 45, q 46, q 47, q 48, q 49, q 50, q 51, q 52, q 53, q 54, q 55, q 56, q 57, q 58, q 59, q 60, q 61, q 62, q 63, q 64, q 65, q 66, q 67, q 68, q 69, q 70, q 71, q 72, q 73, q 74, q 75, q 76, q 77, q 78, q 79, q 80, q 81, q 82, q 83, q 84, q 85, q 86, q 87, q 88, q 89, q 90, q 91, q 92, q 93, q 94, q 95, q 96, q 97, q 98, q 99, q 100, q 101, q 102, q 103, q 104, q 105, q 106, q 107, q 108, q 109, q 110, q 111, q 112, q 113, q 114, q 115, q 116, q 117, q 118, q 119, q 120, q 121, q 122, q 123, q 124, q 125, q 126, q 127, q 128, q 129, q 130, q 131, q 132, q 133, q 134, q 135, q 136, q 137, q 138, q 139, q 140, q 141, q 142]) (τ)
          rcases Nat.lt_or_ge k ol.length with hkl | hkg
          · have hxi := ixQ hI.qi (i := k) (by omega)
            have hxo := ixQ hI.qo hkl
            have hsame : nth il k = nth ol k := by rw [hI.same, nth_append_left hkl]
            rw [hsame] at hxi
            repeat' (first
              | ((first | (with_reducible refine WL_do fun Cw cw => ?_) | ((with_reducible apply WP_do); intro Cw cw)); (focus (first | ((with_reducible first | apply O_move | apply O_assign | apply O_pickV | apply O_extract); (repeat rfl); (first | (with_reducible exact cw) | ((with_reducible apply cw); (focus ((try simp only [zp]); exact rfl)); clear cw Cw))) | ((with_reducible first | apply O_load | apply O_bin | apply O_indexAddr | apply O_len); (repeat rfl); simp (disch := omega) only [go_sem, ↓hli, ↓hlo, ↓hxi, ↓hxo]; (first | (with_reducible exact cw) | ((with_reducible apply cw); (focus ((try simp only [zp]); exact rfl)); clear cw Cw))) | ((with_reducible first | apply O_buildSlice | apply O_append); (repeat rfl); (try simp only [zc, zo, Nat.reduceBEq]); simp (disch := omega) only [go_sem, ↓hli, ↓hlo, ↓hxi, ↓hxo]; (first | (with_reducible exact cw) | ((with_reducible apply cw); (focus ((try simp only [zp]); exact rfl)); clear cw Cw))))); (try ((with_reducible apply eq_id); (focus ((try simp only [zp]); exact rfl)))))
              | ((first | ((with_reducible first | apply WL_if | apply WP_if); (focus rfl)) | ((with_reducible first | apply WL_un | apply WP_un); (focus rfl))); (focus ((try simp only [zp]); exact rfl)))
              | ((with_reducible first | refine WL_nil (hK _ _ ?_) | refine WP_nil (hK _ _ ?_)); clear hK K)
              | ((with_reducible apply WP_pick); (focus rfl); (focus rfl); (focus rfl); (focus ((try simp only [zp]); exact rfl)); (focus ((try simp only [zp]); exact rfl)))
              | ((with_reducible first | refine T_reg_seq fun K hK => ?_ | refine T_reg_end fun K hK => ?_); simp only [zl])
              | ((with_reducible first | refine T_pure_seq ?_ ?_ (fun K hK => ?_) | refine T_pure_end ?_ ?_ (fun K hK => ?_)); (focus kernel_rfl); (focus kernel_rfl); simp only [zl])
              | ((with_reducible first | apply T_cond_seq | apply T_cond); (focus rfl))
              | (intro hg; (first | (simp only [zb] at hg; done) | ((try simp only [zb, eq_self] at hg); (have hh : True := hg); clear hh hg) | ((try simp only [zb] at hg); (try (have hh := hg; simp only [hh]; clear hh)); (try simp only [zg, zq, ne_eq, gt_iff_lt, ge_iff_le] at hg); (try (exfalso; omega)))))
              | with_reducible first | refine T_seq_assoc ?_ | refine T_skip_seq ?_ | refine T_ret_seq ?_ | refine T_exit_seq ?_ | refine T_ret ?_ | refine T_skip ?_ | refine T_exit ?_ | refine T_block_seq fun Kb hKb => ?_ | refine T_block ?_
              | (simp only [TX.inBlock, TX.then, zi, Nat.reduceEqDiff])
              | ((with_reducible first | refine hR _ _ (fun C cc => ?_) | refine hN _ _ (fun C cc => ?_)); simp (disch := omega) only [go_sem, ↓hli, ↓hlo, ↓hxi, ↓hxo]; (with_reducible apply cc); clear cc C)
              | (with_reducible apply_assumption -exfalso -symm only [*]))
            refine ⟨(k + 1), ?_, ⟨rfl, rfl, rfl, rfl, trivial⟩, ?_, (by first | rfl | trivial)⟩
            all_goals (try dsimp only)
            all_goals (omega)
          · have hll := len_walk hI.room 2
            have hl2 : lenR 2 (bsQ depth ls lost) = (il.length : Int) - ol.length := by
              show (ls.length : Int) = _
              omega
            rw [hl2] at hll
            repeat' (first
              | ((first | (with_reducible refine WL_do fun Cw cw => ?_) | ((with_reducible apply WP_do); intro Cw cw)); (focus (first | ((with_reducible first | apply O_move | apply O_assign | apply O_pickV | apply O_extract); (repeat rfl); (first | (with_reducible exact cw) | ((with_reducible apply cw); (focus ((try simp only [zp]); exact rfl)); clear cw Cw))) | ((with_reducible first | apply O_load | apply O_bin | apply O_indexAddr | apply O_len); (repeat rfl); simp (disch := omega) only [go_sem, ↓hli, ↓hlo]; (first | (with_reducible exact cw) | ((with_reducible apply cw); (focus ((try simp only [zp]); exact rfl)); clear cw Cw))) | ((with_reducible first | apply O_buildSlice | apply O_append); (repeat rfl); (try simp only [zc, zo, Nat.reduceBEq]); simp (disch := omega) only [go_sem, ↓hli, ↓hlo]; (first | (with_reducible exact cw) | ((with_reducible apply cw); (focus ((try simp only [zp]); exact rfl)); clear cw Cw))) | ((with_reducible first | apply O_callF | apply O_call); (repeat rfl); (try simp only [za]); (refine TPure.go (by (first | apply haw | apply hll) <;> first | assumption | omega | exact Eq.trans (get_old (by assumption)) (by assumption)) ?_); (first | (with_reducible exact cw) | ((with_reducible apply cw); (focus ((try simp only [zp]); exact rfl)); clear cw Cw))))); (try ((with_reducible apply eq_id); (focus ((try simp only [zp]); exact rfl)))))
              | ((first | ((with_reducible first | apply WL_if | apply WP_if); (focus rfl)) | ((with_reducible first | apply WL_un | apply WP_un); (focus rfl))); (focus ((try simp only [zp]); exact rfl)))
              | ((with_reducible first | refine WL_nil (hK _ _ ?_) | refine WP_nil (hK _ _ ?_)); clear hK K)
              | ((with_reducible apply WP_pick); (focus rfl); (focus rfl); (focus rfl); (focus ((try simp only [zp]); exact rfl)); (focus ((try simp only [zp]); exact rfl)))
              | ((with_reducible first | refine T_reg_seq fun K hK => ?_ | refine T_reg_end fun K hK => ?_); simp only [zl])
              | ((with_reducible first | refine T_pure_seq ?_ ?_ (fun K hK => ?_) | refine T_pure_end ?_ ?_ (fun K hK => ?_)); (focus kernel_rfl); (focus kernel_rfl); simp only [zl])
              | ((with_reducible first | apply T_cond_seq | apply T_cond); (focus rfl))
              | (intro hg; (first | (simp only [zb] at hg; done) | ((try simp only [zb, eq_self] at hg); (have hh : True := hg); clear hh hg) | ((try simp only [zb] at hg); (try (have hh := hg; simp only [hh]; clear hh)); (try simp only [zg, zq, ne_eq, gt_iff_lt, ge_iff_le] at hg); (try (exfalso; omega)))))
              | with_reducible first | refine T_seq_assoc ?_ | refine T_skip_seq ?_ | refine T_ret_seq ?_ | refine T_exit_seq ?_ | refine T_ret ?_ | refine T_skip ?_ | refine T_exit ?_ | refine T_block_seq fun Kb hKb => ?_ | refine T_block ?_
              | (simp only [TX.inBlock, TX.then, zi, Nat.reduceEqDiff])
              | ((with_reducible first | refine hR _ _ (fun C cc => ?_) | refine hN _ _ (fun C cc => ?_)); simp (disch := omega) only [go_sem, ↓hli, ↓hlo]; (with_reducible apply cc); clear cc C)
              | (with_reducible apply_assumption -exfalso -symm only [*]))
            all_goals trace_state
  · have h1 := fun τ => new_bad (smallC depth 1) hfew 1 τ he
    have hne : ((checkS (smallC depth 1)).2.2 != 0) = true := by simpa using he
    refine calls_of [] [.tmp 6] Try.func14 (by kernel_rfl) rfl (by kernel_rfl) fun X hR hN => ?_
    show Tw _ _ _ _ ([some _, some _, some _] ++ List.replicate 140 none) _
    simp only [List.replicate, List.cons_append, List.nil_append]
    repeat' (first
      | ((first | (with_reducible refine WL_do fun Cw cw => ?_) | ((with_reducible apply WP_do); intro Cw cw)); (focus (first | ((with_reducible first | apply O_move | apply O_assign | apply O_pickV | apply O_extract); (repeat rfl); (first | (with_reducible exact cw) | ((with_reducible apply cw); (focus ((try simp only [zp]); exact rfl)); clear cw Cw))) | ((with_reducible first | apply O_load | apply O_bin | apply O_indexAddr | apply O_len); (repeat rfl); simp (disch := omega) only [go_sem, hne]; (first | (with_reducible exact cw) | ((with_reducible apply cw); (focus ((try simp only [zp]); exact rfl)); clear cw Cw))) | ((with_reducible first | apply O_buildSlice | apply O_append); (repeat rfl); (try simp only [zc, zo, Nat.reduceBEq]); simp (disch := omega) only [go_sem, hne]; (first | (with_reducible exact cw) | ((with_reducible apply cw); (focus ((try simp only [zp]); exact rfl)); clear cw Cw))) | ((with_reducible first | apply O_callF | apply O_call); (repeat rfl); (try simp only [za]); (refine TPure.go (by (first | apply hsm | apply haw | apply h1) <;> first | assumption | omega | exact Eq.trans (get_old (by assumption)) (by assumption)) ?_); (first | (with_reducible exact cw) | ((with_reducible apply cw); (focus ((try simp only [zp]); exact rfl)); clear cw Cw))))); (try ((with_reducible apply eq_id); (focus ((try simp only [zp]); exact rfl)))))
      | ((first | ((with_reducible first | apply WL_if | apply WP_if); (focus rfl)) | ((with_reducible first | apply WL_un | apply WP_un); (focus rfl))); (focus ((try simp only [zp]); exact rfl)))
      | ((with_reducible first | refine WL_nil (hK _ _ ?_) | refine WP_nil (hK _ _ ?_)); clear hK K)
      | ((with_reducible apply WP_pick); (focus rfl); (focus rfl); (focus rfl); (focus ((try simp only [zp]); exact rfl)); (focus ((try simp only [zp]); exact rfl)))
      | ((with_reducible first | refine T_reg_seq fun K hK => ?_ | refine T_reg_end fun K hK => ?_); simp only [zl])
      | ((with_reducible first | refine T_pure_seq ?_ ?_ (fun K hK => ?_) | refine T_pure_end ?_ ?_ (fun K hK => ?_)); (focus kernel_rfl); (focus kernel_rfl); simp only [zl])
      | ((with_reducible first | apply T_cond_seq | apply T_cond); (focus rfl))
      | (intro hg; (first | (simp only [zb] at hg; done) | ((try simp only [zb, eq_self] at hg); (have hh : True := hg); clear hh hg) | ((try simp only [zb] at hg); (try (have hh := hg; simp only [hh]; clear hh)); (try simp only [zg, zq, ne_eq, gt_iff_lt, ge_iff_le] at hg); (try (exfalso; omega)))))
      | with_reducible first | refine T_seq_assoc ?_ | refine T_skip_seq ?_ | refine T_ret_seq ?_ | refine T_exit_seq ?_ | refine T_ret ?_ | refine T_skip ?_ | refine T_exit ?_ | refine T_block_seq fun Kb hKb => ?_ | refine T_block ?_
      | (simp only [TX.inBlock, TX.then, zi, Nat.reduceEqDiff])
      | ((with_reducible first | refine hR _ _ (fun C cc => ?_) | refine hN _ _ (fun C cc => ?_)); simp (disch := omega) only [go_sem, hne]; (with_reducible apply cc); clear cc C)
      | (with_reducible apply_assumption -exfalso -symm only [*]))
    all_goals trace_state
end Go.Proofs.Ytgkcackpffimmaa
