/- The image: the document's Load. -/
import Derived.Test.YtgkcackpffimmaaI17
import Derived.Test.YtgkcackpffimmaaI20
import Derived.Test.YtgkcackpffimmaaE4
import Derived.Test.YtgkcackpffimmaaH0b
import Derived.Test.YtgkcackpffimmaaA0
set_option linter.unusedVariables false
set_option linter.unusedSimpArgs false
set_option maxRecDepth 10000
set_option maxHeartbeats 8000000
namespace Go.Proofs.Ytgkcackpffimmaa
open Go.TM

theorem num_at {σ : TS} {x x' : RSt} {v n : Int} (k : Nat) (hk : k ≤ 4) (hn : n = k) (hx : x.1.length ≤ 100000) (ex : x' = rS k x) (ev : v = rV k x) (A : TObj) (ρ : TS) :
    TDoes Try.prog 132 [.ptr (σ.length + 1) 0, .int .i64 n] (σ ++ A :: .cells (rC x.1 x.2) :: ρ) (.int .i64 v) (σ ++ A :: .cells (rC x'.1 x'.2) :: ρ) := by
  have hl : (σ ++ A :: .cells (rC x.1 x.2) :: ρ)[σ.length + 1]? = some (.cells (rC x.1 x.2)) := by rw [get_app]; rfl
  have := refrnum_walk hl k (by omega) hk
  rw [set_app] at this
  rw [ex, ev, hn]
  exact this

theorem lg_int {k : IntKind} {n : Int} : (TV.int k n).letgo = .int k n := rfl
theorem lg_bool {b : Bool} : (TV.bool b).letgo = .bool b := rfl
theorem lg_nils : TV.nils.letgo = .nils := rfl
theorem lg_row {α : Type} {f : α → List TV} {r : Row α} : (rowTV f r).letgo = rowTV f r := by unfold rowTV; split <;> rfl
abbrev zC : TObj := .cells [.int .i64 0, .nils, .int .i64 0, .nils, .nils, .nils]
/-- A port as the document reads it. -/
def fresh11 (s : RSt) : Int := if portHi s * 4294967296 + portLo s > 1099511627776 then portLo s else portLo s + portHi s * 4294967296
theorem or_sum {a b : Int} (ha : 0 ≤ a ∧ a ≤ 4294967295) (hb : 0 ≤ b ∧ b < 4294967296) (h : a * 4294967296 + b ≤ 1099511627776) : ior .i64 (ishl .i64 a 32) b = b + a * 4294967296 := by
  obtain ⟨m, rfl⟩ : ∃ m : Nat, a = m := ⟨a.toNat, by omega⟩
  obtain ⟨k, rfl⟩ : ∃ k : Nat, b = k := ⟨b.toNat, by omega⟩
  have e1 : ishl .i64 (m : Int) 32 = ((m * 4294967296 : Nat) : Int) := by
    unfold ishl
    rw [show min (32 : Int).toNat (IntKind.bits .i64) = 32 from rfl]
    have : (m : Int) * 2 ^ 32 = ((m * 4294967296 : Nat) : Int) := by
      rw [show (2 : Int) ^ 32 = 4294967296 from rfl]; omega
    rw [this, wrap64_of (by omega) (by omega)]
  rw [e1]
  unfold ior
  rw [show IntKind.bits .i64 = 64 from rfl, BitVec.ofInt_natCast, BitVec.ofInt_natCast, BitVec.toNat_or, BitVec.toNat_ofNat, BitVec.toNat_ofNat, Nat.mod_eq_of_lt (show m * 4294967296 < 2 ^ 64 by omega), Nat.mod_eq_of_lt (show k < 2 ^ 64 by omega)]
  have e2 : m * 4294967296 ||| k = m * 4294967296 + k := by
    have := Nat.two_pow_add_eq_or_of_lt (i := 32) (b := k) (by omega) m
    rw [show 2 ^ 32 * m = m * 4294967296 by omega] at this
    exact this.symm
  rw [e2, wrap64_of (by omega) (by omega)]
  omega

theorem refload_walk (s : List UInt8) (hs : s.length ≤ 5000) (σ : TS) : TPure Try.prog 55 [.str (B s)] σ (.tup [cfgTV (loadL s).1, .int .i64 (loadL s).2]) := by
  have ho := fun τ => refopen_pure s τ (by omega)
  by_cases hb : (openL s).2 = 0
  · have e1 : loadL s = loadT (openL s).1 := by rw [loadL, if_neg (by omega)]
    rw [e1]
    have htl : (openL s).1.length ≤ 5000 := by
      unfold openL
      split
      · simp
      · split
        · simp; omega
        · simp
    generalize (openL s).1 = t at *
    rw [hb] at ho
    by_cases h6 : t.length < 6
    · rw [loadT, if_pos h6]
      refine pure_of [65, 97, 157, 163, 248] [.cell 2 27, .tmp 3] Try.func55 (by kernel_rfl) rfl (by kernel_rfl) fun X hR hN => ?_
      show Tw _ _ _ _ ([some _] ++ List.replicate 276 none) _
      simp only [List.replicate, List.cons_append, List.nil_append]
      have FK := zdum; have FD := zdum; have FL := @be_len; have cA := @ho
      refine walk ?_
      (repeat' first | exact Lv.nil | apply Lv.cons) <;> (intros; clear cA FL FD FK)
      all_goals rfl
    · rw [loadT, if_neg h6]
      by_cases hm : t.take 6 = [65, 70, 68, 88, 0, 1]
      · rw [if_neg (by simpa using hm)]
        have hmg : B (t.take 6) = (⟨#[65, 70, 68, 88, 0, 1]⟩ : ByteArray) := by rw [hm]
        have hd : (t.drop 6).length ≤ 5000 := by rw [List.length_drop]; omega
        obtain ⟨d, hdd⟩ : ∃ d, t.drop 6 = d := ⟨_, rfl⟩
        rw [hdd] at hd ⊢
        obtain ⟨x0, e0⟩ : ∃ x0 : RSt, x0 = (d, 0) := ⟨_, rfl⟩
        have hx0 : x0.1.length ≤ 100000 := by rw [e0]; show d.length ≤ _; omega
        have hdr : t.drop 6 = x0.1 := by rw [e0]; exact hdd
        have h00 : x0.2 = 0 := by rw [e0]
        obtain ⟨s1, es1⟩ : ∃ x, x = rS 2 x0 := ⟨_, rfl⟩
        obtain ⟨v1, ev1⟩ : ∃ x, x = rV 2 x0 := ⟨_, rfl⟩
        obtain ⟨s2, es2⟩ : ∃ x, x = rS 2 s1 := ⟨_, rfl⟩
        obtain ⟨n1, en1⟩ : ∃ x, x = rV 2 s1 := ⟨_, rfl⟩
        obtain ⟨⟨qa1, qx1⟩, eq1⟩ : ∃ x, x = tkN intR n1.toNat s2 := ⟨_, rfl⟩
        obtain ⟨s3, es3⟩ : ∃ x, x = rS 4 qx1 := ⟨_, rfl⟩
        obtain ⟨v2, ev2⟩ : ∃ x, x = rV 4 qx1 := ⟨_, rfl⟩
        obtain ⟨s4, es4⟩ : ∃ x, x = rS 2 s3 := ⟨_, rfl⟩
        obtain ⟨n2, en2⟩ : ∃ x, x = rV 2 s3 := ⟨_, rfl⟩
        obtain ⟨⟨qa2, qx2⟩, eq2⟩ : ∃ x, x = tkN winR n2.toNat s4 := ⟨_, rfl⟩
        obtain ⟨s5, es5⟩ : ∃ x, x = rS 2 qx2 := ⟨_, rfl⟩
        obtain ⟨n3, en3⟩ : ∃ x, x = rV 2 qx2 := ⟨_, rfl⟩
        obtain ⟨⟨qa3, qx3⟩, eq3⟩ : ∃ x, x = tkN linkR n3.toNat s5 := ⟨_, rfl⟩
        obtain ⟨s6, es6⟩ : ∃ x, x = rS 2 qx3 := ⟨_, rfl⟩
        obtain ⟨n4, en4⟩ : ∃ x, x = rV 2 qx3 := ⟨_, rfl⟩
        obtain ⟨⟨qa4, qx4⟩, eq4⟩ : ∃ x, x = tkN portR n4.toNat s6 := ⟨_, rfl⟩
        obtain ⟨qb, eqb⟩ : ∃ x, x = badN n4.toNat s6 := ⟨_, rfl⟩
        have p1 : netParts x0 = (qa1, qx1) := by rw [netParts, ← es1, tk, ← es2, ← en1, ← eq1]
        have p2 : netWins x0 = (qa2, qx2) := by rw [netWins, p1]; dsimp only; rw [← es3, tk, ← es4, ← en2, ← eq2]
        have p3 : netLinks x0 = (qa3, qx3) := by rw [netLinks, p2]; dsimp only; rw [tk, ← es5, ← en3, ← eq3]
        have p4 : netPorts x0 = (qa4, qx4) := by rw [netPorts, p3]; dsimp only; rw [tk, ← es6, ← en4, ← eq4]
        have pb : netBad x0 = qb := by rw [netBad, p3]; dsimp only; rw [badP, ← es6, ← en4, ← eqb]
        obtain ⟨c, ec⟩ : ∃ c : Cfg, c = ⟨v1, rowOf qa1, v2, rowOf qa2, rowOf qa3, rowOf qa4⟩ := ⟨_, rfl⟩
        have pc : netC11 x0 = c := by rw [ec, netC11, p1, p2, p3, p4, ← ev1]; dsimp only; rw [← ev2]
        have hbig : qx4.2 = 0 → BigC c := fun h => by
          have := netC_big (s := x0) (by rw [e0]; exact hd) (by rw [p4]; exact h)
          rwa [pc] at this
        have hfin : loadN (d, 0) = if qb = true then (noC, 1) else if qx4.2 ≠ 0 then (noC, qx4.2) else if 0 < qx4.1.length then (noC, 11) else if (checkS c).2.2 ≠ 0 then (noC, (checkS c).2.2) else (c, 0) := by
          rw [← e0, loadN, pb, p4, pc]
        rw [hfin]
        obtain ⟨S, hS⟩ : ∃ S, S = (if qb = true then (noC, 1) else if qx4.2 ≠ 0 then (noC, qx4.2) else if 0 < qx4.1.length then (noC, 11) else if (checkS c).2.2 ≠ 0 then (noC, (checkS c).2.2) else (c, 0)) := ⟨_, rfl⟩
        rw [← hS]
        have w1 := rV2_le s1
        have w2 := rV2_le s3
        have w3 := rV2_le qx2
        have w4 := rV2_le qx3
        rw [← en1] at w1
        rw [← en2] at w2
        rw [← en3] at w3
        rw [← en4] at w4
        have l1 : s1.1.length ≤ 100000 := by rw [es1]; have := rS_le 2 x0; omega
        have l2 : s2.1.length ≤ 100000 := by rw [es2]; have := rS_le 2 s1; omega
        have l3 : qx1.1.length ≤ 100000 := by have := tkN_le (f := intR) (fun x => rS_le 2 x) n1.toNat s2; rw [← eq1] at this; dsimp only at this; omega
        have l4 : s3.1.length ≤ 100000 := by rw [es3]; have := rS_le 4 qx1; omega
        have l5 : s4.1.length ≤ 100000 := by rw [es4]; have := rS_le 2 s3; omega
        have l6 : qx2.1.length ≤ 100000 := by have := tkN_le winR_le n2.toNat s4; rw [← eq2] at this; dsimp only at this; omega
        have l7 : s5.1.length ≤ 100000 := by rw [es5]; have := rS_le 2 qx2; omega
        have l8 : qx3.1.length ≤ 100000 := by have := tkN_le linkR_le n3.toNat s5; rw [← eq3] at this; dsimp only at this; omega
        have l9 : s6.1.length ≤ 100000 := by rw [es6]; have := rS_le 2 qx3; omega
        have a1 := fun A ρ => num_at (σ := σ) 2 (by omega) rfl hx0 es1 ev1 A ρ
        have a2 := fun A ρ => num_at (σ := σ) 2 (by omega) rfl l1 es2 en1 A ρ
        have a3 := fun A ρ => num_at (σ := σ) 4 (by omega) rfl l3 es3 ev2 A ρ
        have a4 := fun A ρ => num_at (σ := σ) 2 (by omega) rfl l4 es4 en2 A ρ
        have a5 := fun A ρ => num_at (σ := σ) 2 (by omega) rfl l6 es5 en3 A ρ
        have a6 := fun A ρ => num_at (σ := σ) 2 (by omega) rfl l8 es6 en4 A ρ
        obtain ⟨N1, rfl⟩ : ∃ N : Nat, n1 = N := ⟨n1.toNat, by omega⟩
        obtain ⟨N2, rfl⟩ : ∃ N : Nat, n2 = N := ⟨n2.toNat, by omega⟩
        obtain ⟨N3, rfl⟩ : ∃ N : Nat, n3 = N := ⟨n3.toNat, by omega⟩
        obtain ⟨N4, rfl⟩ : ∃ N : Nat, n4 = N := ⟨n4.toNat, by omega⟩
        rw [Int.toNat_natCast] at eq1 eq2 eq3 eq4 eqb
        have hck : qx4.2 = 0 → ∀ τ, TPure Try.prog 29 [cfgTV c] τ (checkTV (checkS c)) := fun h τ => refcheck_big c (hbig h) τ
        obtain ⟨cw, ecw⟩ : ∃ w, w = checkS c := ⟨_, rfl⟩
        rw [← ecw] at hck hS
        clear ecw
        subst ec
        dsimp only [cfgTV, cfgC] at hck
        clear hdd es1 ev1 es2 en1 es3 ev2 es4 en2 es5 en3 es6 en4 p1 p2 p3 p4 pb pc hbig hfin e0
        obtain ⟨r0, z0⟩ := x0
        dsimp only at h00 hdr
        subst h00
        dsimp only at a1
        refine pure_of [65, 97, 157, 163, 248] [.cell 2 27, .tmp 3] Try.func55 (by kernel_rfl) rfl (by kernel_rfl) fun X hR hN => ?_
        show Tw _ _ _ _ ([some _] ++ List.replicate 276 none) _
        simp only [List.replicate, List.cons_append, List.nil_append]
        as_aux_lemma =>
          repeat' (first
            | ((first | (with_reducible refine WL_do fun Cw cw => ?_) | ((with_reducible apply WP_do); intro Cw cw)); (focus (first | ((with_reducible first | apply O_move | apply O_assign | apply O_pickV | apply O_extract | apply O_nilCheck); (repeat rfl)) | ((with_reducible first | apply O_load | apply O_fieldAddr | apply O_bin | apply O_len | apply O_store | apply O_alloc | apply O_box | apply O_build); (repeat rfl); simp (disch := ((try simp only [List.length_append, List.length_cons, List.length_nil, List.length_replicate, List.length_take, List.length_drop, be_len]); omega)) only [go_sem, hmg, hdr]) | ((with_reducible first | apply O_buildSlice | apply O_append); (repeat rfl); (try simp only [zc, zo, Nat.reduceBEq]); simp (disch := ((try simp only [List.length_append, List.length_cons, List.length_nil, List.length_replicate, List.length_take, List.length_drop, be_len]); omega)) only [go_sem, hmg, hdr]) | ((with_reducible apply O_sliceR); (focus rfl); intro Cs cs; (try simp (disch := omega) only [evB, ev, constV, const1, Int.reduceLE, Int.natCast_nonneg, Int.toNat_natCast, Int.reduceToNat, if_true, if_pos, List.getElem?_cons_zero, List.getElem?_cons_succ, Option.bind_some, Option.bind_none]); simp (disch := ((try simp only [List.length_append, List.length_cons, List.length_nil, List.length_replicate, List.length_take, List.length_drop, be_len]); omega)) only [go_sem, hmg, hdr]; (with_reducible apply cs); clear cs Cs) | ((with_reducible first | apply O_callF | apply O_call); (repeat rfl); (try simp only [za]); (first | (refine TPure.go (by (apply ho <;> first | assumption | omega | exact Eq.trans (get_old (by assumption)) (by assumption) | (focus ((simp only [List.length_append, List.length_cons, List.length_nil, List.length_replicate, List.length_take, List.length_drop, be_len]); omega)) | (focus (simp (disch := ((try simp only [List.length_append, List.length_cons, List.length_nil, List.length_replicate, List.length_take, List.length_drop, be_len]); omega)) only [go_sem, hmg, hdr]; (try rfl); done)))) ?_) | (refine TDoes.go (by (first | (apply a1 <;> first | assumption | omega | exact Eq.trans (get_old (by assumption)) (by assumption) | (focus ((simp only [List.length_append, List.length_cons, List.length_nil, List.length_replicate, List.length_take, List.length_drop, be_len]); omega)) | (focus (simp (disch := ((try simp only [List.length_append, List.length_cons, List.length_nil, List.length_replicate, List.length_take, List.length_drop, be_len]); omega)) only [go_sem, hmg, hdr]; (try rfl); done))) | (apply a2 <;> first | assumption | omega | exact Eq.trans (get_old (by assumption)) (by assumption) | (focus ((simp only [List.length_append, List.length_cons, List.length_nil, List.length_replicate, List.length_take, List.length_drop, be_len]); omega)) | (focus (simp (disch := ((try simp only [List.length_append, List.length_cons, List.length_nil, List.length_replicate, List.length_take, List.length_drop, be_len]); omega)) only [go_sem, hmg, hdr]; (try rfl); done))))) ?_; (try simp (disch := ((try simp only [List.length_append, List.length_cons, List.length_nil, List.length_replicate, List.length_take, List.length_drop, be_len]); omega)) only [go_sem, hmg, hdr]))))); (first | (with_reducible exact cw) | ((with_reducible apply cw); (focus ((try simp only [zp]); exact rfl)); clear cw Cw))); (try ((with_reducible apply eq_id); (focus ((try simp only [zp]); exact rfl)))))
            | ((first | ((with_reducible first | apply WL_if | apply WP_if); (focus rfl)) | ((with_reducible first | apply WL_un | apply WP_un); (focus rfl))); (focus ((try simp only [zp]); exact rfl)))
            | ((with_reducible first | refine WL_nil (hK _ _ ?_) | refine WP_nil (hK _ _ ?_)); clear hK K)
            | ((with_reducible apply WP_pick); (focus rfl); (focus rfl); (focus rfl); (focus ((try simp only [zp]); exact rfl)); (focus ((try simp only [zp]); exact rfl)))
            | ((with_reducible first | refine T_reg_seq fun K hK => ?_ | refine T_reg_end fun K hK => ?_); simp only [zl])
            | ((with_reducible first | refine T_pure_seq ?_ ?_ (fun K hK => ?_) | refine T_pure_end ?_ ?_ (fun K hK => ?_)); (focus kernel_rfl); (focus kernel_rfl); simp only [zl])
            | ((with_reducible first | apply T_cond_seq | apply T_cond); (focus rfl))
            | (intro hg; (first | (simp only [zb] at hg; done) | ((try simp only [zb, eq_self] at hg); (have hh : True := hg); clear hh hg) | ((try simp only [zb] at hg); (try (have hh := hg; simp only [hh]; clear hh)); (try simp only [zg, zq, ne_eq, gt_iff_lt, ge_iff_le] at hg); (try (exfalso; omega)))))
            | with_reducible first | apply T_seq_assoc | apply T_skip_seq | apply T_ret_seq | apply T_exit_seq | apply T_ret | apply T_skip | apply T_exit | refine T_block_seq fun Kb hKb => ?_ | apply T_block
            | (simp only [TX.inBlock, TX.then, zi, Nat.reduceEqDiff])
            | ((with_reducible first | refine hR _ _ (fun C cc => ?_) | refine hN _ _ (fun C cc => ?_)); simp (disch := ((try simp only [List.length_append, List.length_cons, List.length_nil, List.length_replicate, List.length_take, List.length_drop, be_len]); omega)) only [go_sem, hmg, hdr]; (with_reducible apply cc); clear cc C; (first | refine Ends.more (by first | rfl | simp only [go_sem, Bool.and_self]) ?_ | refine Ends.same (by first | rfl | simp only [go_sem, Bool.and_self]) ?_); (try simp only [go_sem, Bool.and_self]))
            | (with_reducible apply_assumption -exfalso -symm only [*]))
          have J1 : ∀ (ρ : TS) (m9 : TL), Fits [none, none, some (some (.ptr σ.length 0)), none, none, none, some (some (.ptr (σ.length + 1) 0)), some (some (.ptr (σ.length + 2) 0)), none, none, none, none, none, none, none, none, none, none, none, none, none, none, none, none, none, none, none, none, none, none, none, none, none, none, none, none, none, none, none, none, none, none, none, none, none, none, none, none, none, none, none, none, none, none, none, none, none, none, none, none, none, none, none, none, none, none, none, none, none, none, none, none, none, none, none, none, none, none, none, none, none, none, none, none, none, none, none, none, none, none, none, none, none, none, none, none, none, none, none, none, none, none, none, none, none, none, none, none, none, none, none, none, none, none, none, none, none, none, none, none, none, none, none, none, none, none, none, none, none, none, none, none, none, none, none, none, none, none, none, none, none, none, none, none, none, none, none, none, none, none, none, none, none, none, none, none, none, none, none, none, none, none, none, none, none, none, none, none, none, none, none, none, none, none, none, none, none, none, none, none, none, none, none, none, none, none, none, none, none, none, none, none, none, none, none, none, none, none, none, none, none, none, none, none, none, none, none, none, none, none, none, none, none, none, none, none, none, none, none, none, none, none, none, none, none, none, none, none, none, none, none, none, none, none, none, none, none, none, none, none, none, none, none, none, none, none, none, none, none, none, none, none, none, none, none, none, none, none, none, none, none, none, none, none, none, none, none, none, none, none, none, none, none, none, none, none, none] m9 → (True) → Kb m9 (σ ++ zC :: .cells (rC qx1.1 qx1.2) :: .cells [.int .i64 v1, rowTV intC (rowOf qa1), .int .i64 0, .nils, .nils, .nils] :: ρ) := by
            intro ρ m9 hf9 h9
            obtain ⟨q, rfl⟩ := hf9.fill 0
            apply hKb
            show Tw _ _ _ _ ([q 0, q 1, some (.ptr σ.length 0), q 3, q 4, q 5, some (.ptr (σ.length + 1) 0), some (.ptr (σ.length + 2) 0), q 8, q 9, q 10, q 11, q 12, q 13, q 14, q 15, q 16, q 17, q 18, q 19, q 20, q 21, q 22, q 23, q 24, q 25, q 26, q 27, q 28, q 29, q 30, q 31, q 32, q 33, q 34, q 35, q 36, q 37, q 38, q 39, q 40, q 41, q 42, q 43, q 44, q 45, q 46, q 47, q 48, q 49, q 50, q 51, q 52, q 53, q 54, q 55, q 56, q 57, q 58, q 59, q 60, q 61, q 62, q 63, q 64, q 65, q 66, q 67, q 68, q 69, q 70, q 71, q 72, q 73, q 74, q 75, q 76, q 77, q 78, q 79, q 80, q 81, q 82, q 83, q 84, q 85, q 86, q 87, q 88, q 89, q 90, q 91, q 92, q 93, q 94, q 95, q 96, q 97, q 98, q 99, q 100, q 101, q 102, q 103, q 104, q 105, q 106, q 107, q 108, q 109, q 110, q 111, q 112, q 113, q 114, q 115, q 116, q 117, q 118, q 119, q 120, q 121, q 122, q 123, q 124, q 125, q 126, q 127, q 128, q 129, q 130, q 131, q 132, q 133, q 134, q 135, q 136, q 137, q 138, q 139, q 140, q 141, q 142, q 143, q 144, q 145, q 146, q 147, q 148, q 149, q 150, q 151, q 152, q 153, q 154, q 155, q 156, q 157, q 158, q 159, q 160, q 161, q 162, q 163, q 164, q 165, q 166, q 167, q 168, q 169, q 170, q 171, q 172, q 173, q 174, q 175, q 176, q 177, q 178, q 179, q 180, q 181, q 182, q 183, q 184, q 185, q 186, q 187, q 188, q 189, q 190, q 191, q 192, q 193, q 194, q 195, q 196, q 197, q 198, q 199, q 200, q 201, q 202, q 203, q 204, q 205, q 206, q 207, q 208, q 209, q 210, q 211, q 212, q 213, q 214, q 215, q 216, q 217, q 218, q 219, q 220, q 221, q 222, q 223, q 224, q 225, q 226, q 227, q 228, q 229, q 230, q 231, q 232, q 233, q 234, q 235, q 236, q 237, q 238, q 239, q 240, q 241, q 242, q 243, q 244, q 245, q 246, q 247, q 248, q 249, q 250, q 251, q 252, q 253, q 254, q 255, q 256, q 257, q 258, q 259, q 260, q 261, q 262, q 263, q 264, q 265, q 266, q 267, q 268, q 269, q 270, q 271, q 272, q 273, q 274, q 275, q 276]) (σ ++ zC :: .cells (rC qx1.1 qx1.2) :: .cells [.int .i64 v1, rowTV intC (rowOf qa1), .int .i64 0, .nils, .nils, .nils] :: ρ)
            as_aux_lemma =>
              repeat' (first
                | ((first | (with_reducible refine WL_do fun Cw cw => ?_) | ((with_reducible apply WP_do); intro Cw cw)); (focus (first | ((with_reducible first | apply O_move | apply O_assign | apply O_pickV | apply O_extract | apply O_nilCheck); (repeat rfl)) | ((with_reducible first | apply O_load | apply O_fieldAddr | apply O_bin | apply O_len | apply O_store | apply O_alloc | apply O_box | apply O_build); (repeat rfl); simp (disch := ((try simp only [List.length_append, List.length_cons, List.length_nil, List.length_replicate, List.length_take, List.length_drop, be_len]); omega)) only [go_sem]) | ((with_reducible first | apply O_buildSlice | apply O_append); (repeat rfl); (try simp only [zc, zo, Nat.reduceBEq]); simp (disch := ((try simp only [List.length_append, List.length_cons, List.length_nil, List.length_replicate, List.length_take, List.length_drop, be_len]); omega)) only [go_sem]) | ((with_reducible apply O_sliceR); (focus rfl); intro Cs cs; (try simp (disch := omega) only [evB, ev, constV, const1, Int.reduceLE, Int.natCast_nonneg, Int.toNat_natCast, Int.reduceToNat, if_true, if_pos, List.getElem?_cons_zero, List.getElem?_cons_succ, Option.bind_some, Option.bind_none]); simp (disch := ((try simp only [List.length_append, List.length_cons, List.length_nil, List.length_replicate, List.length_take, List.length_drop, be_len]); omega)) only [go_sem]; (with_reducible apply cs); clear cs Cs) | ((with_reducible first | apply O_callF | apply O_call); (repeat rfl); (try simp only [za]); (refine TDoes.go (by (first | apply a3 | apply a4) <;> first | assumption | omega | exact Eq.trans (get_old (by assumption)) (by assumption) | (focus ((simp only [List.length_append, List.length_cons, List.length_nil, List.length_replicate, List.length_take, List.length_drop, be_len]); omega)) | (focus (simp (disch := ((try simp only [List.length_append, List.length_cons, List.length_nil, List.length_replicate, List.length_take, List.length_drop, be_len]); omega)) only [go_sem]; (try rfl); done))) ?_; (try simp (disch := ((try simp only [List.length_append, List.length_cons, List.length_nil, List.length_replicate, List.length_take, List.length_drop, be_len]); omega)) only [go_sem])))); (first | (with_reducible exact cw) | ((with_reducible apply cw); (focus ((try simp only [zp]); exact rfl)); clear cw Cw))); (try ((with_reducible apply eq_id); (focus ((try simp only [zp]); exact rfl)))))
                | ((first | ((with_reducible first | apply WL_if | apply WP_if); (focus rfl)) | ((with_reducible first | apply WL_un | apply WP_un); (focus rfl))); (focus ((try simp only [zp]); exact rfl)))
                | ((with_reducible first | refine WL_nil (hK _ _ ?_) | refine WP_nil (hK _ _ ?_)); clear hK K)
                | ((with_reducible apply WP_pick); (focus rfl); (focus rfl); (focus rfl); (focus ((try simp only [zp]); exact rfl)); (focus ((try simp only [zp]); exact rfl)))
                | ((with_reducible first | refine T_reg_seq fun K hK => ?_ | refine T_reg_end fun K hK => ?_); simp only [zl])
                | ((with_reducible first | refine T_pure_seq ?_ ?_ (fun K hK => ?_) | refine T_pure_end ?_ ?_ (fun K hK => ?_)); (focus kernel_rfl); (focus kernel_rfl); simp only [zl])
                | ((with_reducible first | apply T_cond_seq | apply T_cond); (focus rfl))
                | (intro hg; (first | (simp only [zb] at hg; done) | ((try simp only [zb, eq_self] at hg); (have hh : True := hg); clear hh hg) | ((try simp only [zb] at hg); (try (have hh := hg; simp only [hh]; clear hh)); (try simp only [zg, zq, ne_eq, gt_iff_lt, ge_iff_le] at hg); (try (exfalso; omega)))))
                | with_reducible first | apply T_seq_assoc | apply T_skip_seq | apply T_ret_seq | apply T_exit_seq | apply T_ret | apply T_skip | apply T_exit | refine T_block_seq fun Kb hKb => ?_ | apply T_block
                | (simp only [TX.inBlock, TX.then, zi, Nat.reduceEqDiff])
                | ((with_reducible first | refine hR _ _ (fun C cc => ?_) | refine hN _ _ (fun C cc => ?_)); simp (disch := ((try simp only [List.length_append, List.length_cons, List.length_nil, List.length_replicate, List.length_take, List.length_drop, be_len]); omega)) only [go_sem]; (with_reducible apply cc); clear cc C; (first | refine Ends.more (by first | rfl | simp only [go_sem, Bool.and_self]) ?_ | refine Ends.same (by first | rfl | simp only [go_sem, Bool.and_self]) ?_); (try simp only [go_sem, Bool.and_self]))
                | (with_reducible apply_assumption -exfalso -symm only [*]))
              have J2 : ∀ (ρ : TS) (m9 : TL), Fits [none, none, some (some (.ptr σ.length 0)), none, none, none, some (some (.ptr (σ.length + 1) 0)), some (some (.ptr (σ.length + 2) 0)), none, none, none, none, none, none, none, none, none, none, none, none, none, none, none, none, none, none, none, none, none, none, none, none, none, none, none, none, none, none, none, none, none, none, none, none, none, none, none, none, none, none, none, none, none, none, none, none, none, none, none, none, none, none, none, none, none, none, none, none, none, none, none, none, none, none, none, none, none, none, none, none, none, none, none, none, none, none, none, none, none, none, none, none, none, none, none, none, none, none, none, none, none, none, none, none, none, none, none, none, none, none, none, none, none, none, none, none, none, none, none, none, none, none, none, none, none, none, none, none, none, none, none, none, none, none, none, none, none, none, none, none, none, none, none, none, none, none, none, none, none, none, none, none, none, none, none, none, none, none, none, none, none, none, none, none, none, none, none, none, none, none, none, none, none, none, none, none, none, none, none, none, none, none, none, none, none, none, none, none, none, none, none, none, none, none, none, none, none, none, none, none, none, none, none, none, none, none, none, none, none, none, none, none, none, none, none, none, none, none, none, none, none, none, none, none, none, none, none, none, none, none, none, none, none, none, none, none, none, none, none, none, none, none, none, none, none, none, none, none, none, none, none, none, none, none, none, none, none, none, none, none, none, none, none, none, none, none, none, none, none, none, none, none, none, none, none, none, none] m9 → (True) → Kb m9 (σ ++ zC :: .cells (rC qx2.1 qx2.2) :: .cells [.int .i64 v1, rowTV intC (rowOf qa1), .int .i64 v2, rowTV winC (rowOf qa2), .nils, .nils] :: ρ) := by
                intro ρ m9 hf9 h9
                obtain ⟨q, rfl⟩ := hf9.fill 0
                apply hKb
                show Tw _ _ _ _ ([q 0, q 1, some (.ptr σ.length 0), q 3, q 4, q 5, some (.ptr (σ.length + 1) 0), some (.ptr (σ.length + 2) 0), q 8, q 9, q 10, q 11, q 12, q 13, q 14, q 15, q 16, q 17, q 18, q 19, q 20, q 21, q 22, q 23, q 24, q 25, q 26, q 27, q 28, q 29, q 30, q 31, q 32, q 33, q 34, q 35, q 36, q 37, q 38, q 39, q 40, q 41, q 42, q 43, q 44, q 45, q 46, q 47, q 48, q 49, q 50, q 51, q 52, q 53, q 54, q 55, q 56, q 57, q 58, q 59, q 60, q 61, q 62, q 63, q 64, q 65, q 66, q 67, q 68, q 69, q 70, q 71, q 72, q 73, q 74, q 75, q 76, q 77, q 78, q 79, q 80, q 81, q 82, q 83, q 84, q 85, q 86, q 87, q 88, q 89, q 90, q 91, q 92, q 93, q 94, q 95, q 96, q 97, q 98, q 99, q 100, q 101, q 102, q 103, q 104, q 105, q 106, q 107, q 108, q 109, q 110, q 111, q 112, q 113, q 114, q 115, q 116, q 117, q 118, q 119, q 120, q 121, q 122, q 123, q 124, q 125, q 126, q 127, q 128, q 129, q 130, q 131, q 132, q 133, q 134, q 135, q 136, q 137, q 138, q 139, q 140, q 141, q 142, q 143, q 144, q 145, q 146, q 147, q 148, q 149, q 150, q 151, q 152, q 153, q 154, q 155, q 156, q 157, q 158, q 159, q 160, q 161, q 162, q 163, q 164, q 165, q 166, q 167, q 168, q 169, q 170, q 171, q 172, q 173, q 174, q 175, q 176, q 177, q 178, q 179, q 180, q 181, q 182, q 183, q 184, q 185, q 186, q 187, q 188, q 189, q 190, q 191, q 192, q 193, q 194, q 195, q 196, q 197, q 198, q 199, q 200, q 201, q 202, q 203, q 204, q 205, q 206, q 207, q 208, q 209, q 210, q 211, q 212, q 213, q 214, q 215, q 216, q 217, q 218, q 219, q 220, q 221, q 222, q 223, q 224, q 225, q 226, q 227, q 228, q 229, q 230, q 231, q 232, q 233, q 234, q 235, q 236, q 237, q 238, q 239, q 240, q 241, q 242, q 243, q 244, q 245, q 246, q 247, q 248, q 249, q 250, q 251, q 252, q 253, q 254, q 255, q 256, q 257, q 258, q 259, q 260, q 261, q 262, q 263, q 264, q 265, q 266, q 267, q 268, q 269, q 270, q 271, q 272, q 273, q 274, q 275, q 276]) (σ ++ zC :: .cells (rC qx2.1 qx2.2) :: .cells [.int .i64 v1, rowTV intC (rowOf qa1), .int .i64 v2, rowTV winC (rowOf qa2), .nils, .nils] :: ρ)
                as_aux_lemma =>
                  repeat' (first
                    | ((first | (with_reducible refine WL_do fun Cw cw => ?_) | ((with_reducible apply WP_do); intro Cw cw)); (focus (first | ((with_reducible first | apply O_move | apply O_assign | apply O_pickV | apply O_extract | apply O_nilCheck); (repeat rfl)) | ((with_reducible first | apply O_load | apply O_fieldAddr | apply O_bin | apply O_len | apply O_store | apply O_alloc | apply O_box | apply O_build); (repeat rfl); simp (disch := ((try simp only [List.length_append, List.length_cons, List.length_nil, List.length_replicate, List.length_take, List.length_drop, be_len]); omega)) only [go_sem]) | ((with_reducible first | apply O_buildSlice | apply O_append); (repeat rfl); (try simp only [zc, zo, Nat.reduceBEq]); simp (disch := ((try simp only [List.length_append, List.length_cons, List.length_nil, List.length_replicate, List.length_take, List.length_drop, be_len]); omega)) only [go_sem]) | ((with_reducible apply O_sliceR); (focus rfl); intro Cs cs; (try simp (disch := omega) only [evB, ev, constV, const1, Int.reduceLE, Int.natCast_nonneg, Int.toNat_natCast, Int.reduceToNat, if_true, if_pos, List.getElem?_cons_zero, List.getElem?_cons_succ, Option.bind_some, Option.bind_none]); simp (disch := ((try simp only [List.length_append, List.length_cons, List.length_nil, List.length_replicate, List.length_take, List.length_drop, be_len]); omega)) only [go_sem]; (with_reducible apply cs); clear cs Cs) | ((with_reducible first | apply O_callF | apply O_call); (repeat rfl); (try simp only [za]); (refine TDoes.go (by (apply a5 <;> first | assumption | omega | exact Eq.trans (get_old (by assumption)) (by assumption) | (focus ((simp only [List.length_append, List.length_cons, List.length_nil, List.length_replicate, List.length_take, List.length_drop, be_len]); omega)) | (focus (simp (disch := ((try simp only [List.length_append, List.length_cons, List.length_nil, List.length_replicate, List.length_take, List.length_drop, be_len]); omega)) only [go_sem]; (try rfl); done)))) ?_; (try simp (disch := ((try simp only [List.length_append, List.length_cons, List.length_nil, List.length_replicate, List.length_take, List.length_drop, be_len]); omega)) only [go_sem])))); (first | (with_reducible exact cw) | ((with_reducible apply cw); (focus ((try simp only [zp]); exact rfl)); clear cw Cw))); (try ((with_reducible apply eq_id); (focus ((try simp only [zp]); exact rfl)))))
                    | ((first | ((with_reducible first | apply WL_if | apply WP_if); (focus rfl)) | ((with_reducible first | apply WL_un | apply WP_un); (focus rfl))); (focus ((try simp only [zp]); exact rfl)))
                    | ((with_reducible first | refine WL_nil (hK _ _ ?_) | refine WP_nil (hK _ _ ?_)); clear hK K)
                    | ((with_reducible apply WP_pick); (focus rfl); (focus rfl); (focus rfl); (focus ((try simp only [zp]); exact rfl)); (focus ((try simp only [zp]); exact rfl)))
                    | ((with_reducible first | refine T_reg_seq fun K hK => ?_ | refine T_reg_end fun K hK => ?_); simp only [zl])
                    | ((with_reducible first | refine T_pure_seq ?_ ?_ (fun K hK => ?_) | refine T_pure_end ?_ ?_ (fun K hK => ?_)); (focus kernel_rfl); (focus kernel_rfl); simp only [zl])
                    | ((with_reducible first | apply T_cond_seq | apply T_cond); (focus rfl))
                    | (intro hg; (first | (simp only [zb] at hg; done) | ((try simp only [zb, eq_self] at hg); (have hh : True := hg); clear hh hg) | ((try simp only [zb] at hg); (try (have hh := hg; simp only [hh]; clear hh)); (try simp only [zg, zq, ne_eq, gt_iff_lt, ge_iff_le] at hg); (try (exfalso; omega)))))
                    | with_reducible first | apply T_seq_assoc | apply T_skip_seq | apply T_ret_seq | apply T_exit_seq | apply T_ret | apply T_skip | apply T_exit | refine T_block_seq fun Kb hKb => ?_ | apply T_block
                    | (simp only [TX.inBlock, TX.then, zi, Nat.reduceEqDiff])
                    | ((with_reducible first | refine hR _ _ (fun C cc => ?_) | refine hN _ _ (fun C cc => ?_)); simp (disch := ((try simp only [List.length_append, List.length_cons, List.length_nil, List.length_replicate, List.length_take, List.length_drop, be_len]); omega)) only [go_sem]; (with_reducible apply cc); clear cc C; (first | refine Ends.more (by first | rfl | simp only [go_sem, Bool.and_self]) ?_ | refine Ends.same (by first | rfl | simp only [go_sem, Bool.and_self]) ?_); (try simp only [go_sem, Bool.and_self]))
                    | (with_reducible apply_assumption -exfalso -symm only [*]))
                  have J3 : ∀ (ρ : TS) (m9 : TL), Fits [none, none, some (some (.ptr σ.length 0)), none, none, none, some (some (.ptr (σ.length + 1) 0)), some (some (.ptr (σ.length + 2) 0)), none, none, none, none, none, none, none, none, none, none, none, none, none, none, none, none, none, none, none, none, none, none, none, none, none, none, none, none, none, none, none, none, none, none, none, none, none, none, none, none, none, none, none, none, none, none, none, none, none, none, none, none, none, none, none, none, none, none, none, none, none, none, none, none, none, none, none, none, none, none, none, none, none, none, none, none, none, none, none, none, none, none, none, none, none, none, none, none, none, none, none, none, none, none, none, none, none, none, none, none, none, none, none, none, none, none, none, none, none, none, none, none, none, none, none, none, none, none, none, none, none, none, none, none, none, none, none, none, none, none, none, none, none, none, none, none, none, none, none, none, none, none, none, none, none, none, none, none, none, none, none, none, none, none, none, none, none, none, none, none, none, none, none, none, none, none, none, none, none, none, none, none, none, none, none, none, none, none, none, none, none, none, none, none, none, none, none, none, none, none, none, none, none, none, none, none, none, none, none, none, none, none, none, none, none, none, none, none, none, none, none, none, none, none, none, none, none, none, none, none, none, none, none, none, none, none, none, none, none, none, none, none, none, none, none, none, none, none, none, none, none, none, none, none, none, none, none, none, none, none, none, none, none, none, none, none, none, none, none, none, none, none, none, none, none, none, none, none, none] m9 → (True) → Kb m9 (σ ++ zC :: .cells (rC qx3.1 qx3.2) :: .cells [.int .i64 v1, rowTV intC (rowOf qa1), .int .i64 v2, rowTV winC (rowOf qa2), rowTV linkC (rowOf qa3), .nils] :: ρ) := by
                    intro ρ m9 hf9 h9
                    obtain ⟨q, rfl⟩ := hf9.fill 0
                    apply hKb
                    show Tw _ _ _ _ ([q 0, q 1, some (.ptr σ.length 0), q 3, q 4, q 5, some (.ptr (σ.length + 1) 0), some (.ptr (σ.length + 2) 0), q 8, q 9, q 10, q 11, q 12, q 13, q 14, q 15, q 16, q 17, q 18, q 19, q 20, q 21, q 22, q 23, q 24, q 25, q 26, q 27, q 28, q 29, q 30, q 31, q 32, q 33, q 34, q 35, q 36, q 37, q 38, q 39, q 40, q 41, q 42, q 43, q 44, q 45, q 46, q 47, q 48, q 49, q 50, q 51, q 52, q 53, q 54, q 55, q 56, q 57, q 58, q 59, q 60, q 61, q 62, q 63, q 64, q 65, q 66, q 67, q 68, q 69, q 70, q 71, q 72, q 73, q 74, q 75, q 76, q 77, q 78, q 79, q 80, q 81, q 82, q 83, q 84, q 85, q 86, q 87, q 88, q 89, q 90, q 91, q 92, q 93, q 94, q 95, q 96, q 97, q 98, q 99, q 100, q 101, q 102, q 103, q 104, q 105, q 106, q 107, q 108, q 109, q 110, q 111, q 112, q 113, q 114, q 115, q 116, q 117, q 118, q 119, q 120, q 121, q 122, q 123, q 124, q 125, q 126, q 127, q 128, q 129, q 130, q 131, q 132, q 133, q 134, q 135, q 136, q 137, q 138, q 139, q 140, q 141, q 142, q 143, q 144, q 145, q 146, q 147, q 148, q 149, q 150, q 151, q 152, q 153, q 154, q 155, q 156, q 157, q 158, q 159, q 160, q 161, q 162, q 163, q 164, q 165, q 166, q 167, q 168, q 169, q 170, q 171, q 172, q 173, q 174, q 175, q 176, q 177, q 178, q 179, q 180, q 181, q 182, q 183, q 184, q 185, q 186, q 187, q 188, q 189, q 190, q 191, q 192, q 193, q 194, q 195, q 196, q 197, q 198, q 199, q 200, q 201, q 202, q 203, q 204, q 205, q 206, q 207, q 208, q 209, q 210, q 211, q 212, q 213, q 214, q 215, q 216, q 217, q 218, q 219, q 220, q 221, q 222, q 223, q 224, q 225, q 226, q 227, q 228, q 229, q 230, q 231, q 232, q 233, q 234, q 235, q 236, q 237, q 238, q 239, q 240, q 241, q 242, q 243, q 244, q 245, q 246, q 247, q 248, q 249, q 250, q 251, q 252, q 253, q 254, q 255, q 256, q 257, q 258, q 259, q 260, q 261, q 262, q 263, q 264, q 265, q 266, q 267, q 268, q 269, q 270, q 271, q 272, q 273, q 274, q 275, q 276]) (σ ++ zC :: .cells (rC qx3.1 qx3.2) :: .cells [.int .i64 v1, rowTV intC (rowOf qa1), .int .i64 v2, rowTV winC (rowOf qa2), rowTV linkC (rowOf qa3), .nils] :: ρ)
                    as_aux_lemma =>
                      repeat' (first
                        | ((first | (with_reducible refine WL_do fun Cw cw => ?_) | ((with_reducible apply WP_do); intro Cw cw)); (focus (first | ((with_reducible first | apply O_move | apply O_assign | apply O_pickV | apply O_extract | apply O_nilCheck); (repeat rfl)) | ((with_reducible first | apply O_load | apply O_fieldAddr | apply O_bin | apply O_len | apply O_store | apply O_alloc | apply O_box | apply O_build); (repeat rfl); simp (disch := ((try simp only [List.length_append, List.length_cons, List.length_nil, List.length_replicate, List.length_take, List.length_drop, be_len]); omega)) only [go_sem]) | ((with_reducible first | apply O_buildSlice | apply O_append); (repeat rfl); (try simp only [zc, zo, Nat.reduceBEq]); simp (disch := ((try simp only [List.length_append, List.length_cons, List.length_nil, List.length_replicate, List.length_take, List.length_drop, be_len]); omega)) only [go_sem]) | ((with_reducible apply O_sliceR); (focus rfl); intro Cs cs; (try simp (disch := omega) only [evB, ev, constV, const1, Int.reduceLE, Int.natCast_nonneg, Int.toNat_natCast, Int.reduceToNat, if_true, if_pos, List.getElem?_cons_zero, List.getElem?_cons_succ, Option.bind_some, Option.bind_none]); simp (disch := ((try simp only [List.length_append, List.length_cons, List.length_nil, List.length_replicate, List.length_take, List.length_drop, be_len]); omega)) only [go_sem]; (with_reducible apply cs); clear cs Cs) | ((with_reducible first | apply O_callF | apply O_call); (repeat rfl); (try simp only [za]); (refine TDoes.go (by (apply a6 <;> first | assumption | omega | exact Eq.trans (get_old (by assumption)) (by assumption) | (focus ((simp only [List.length_append, List.length_cons, List.length_nil, List.length_replicate, List.length_take, List.length_drop, be_len]); omega)) | (focus (simp (disch := ((try simp only [List.length_append, List.length_cons, List.length_nil, List.length_replicate, List.length_take, List.length_drop, be_len]); omega)) only [go_sem]; (try rfl); done)))) ?_; (try simp (disch := ((try simp only [List.length_append, List.length_cons, List.length_nil, List.length_replicate, List.length_take, List.length_drop, be_len]); omega)) only [go_sem])))); (first | (with_reducible exact cw) | ((with_reducible apply cw); (focus ((try simp only [zp]); exact rfl)); clear cw Cw))); (try ((with_reducible apply eq_id); (focus ((try simp only [zp]); exact rfl)))))
                        | ((first | ((with_reducible first | apply WL_if | apply WP_if); (focus rfl)) | ((with_reducible first | apply WL_un | apply WP_un); (focus rfl))); (focus ((try simp only [zp]); exact rfl)))
                        | ((with_reducible first | refine WL_nil (hK _ _ ?_) | refine WP_nil (hK _ _ ?_)); clear hK K)
                        | ((with_reducible apply WP_pick); (focus rfl); (focus rfl); (focus rfl); (focus ((try simp only [zp]); exact rfl)); (focus ((try simp only [zp]); exact rfl)))
                        | ((with_reducible first | refine T_reg_seq fun K hK => ?_ | refine T_reg_end fun K hK => ?_); simp only [zl])
                        | ((with_reducible first | refine T_pure_seq ?_ ?_ (fun K hK => ?_) | refine T_pure_end ?_ ?_ (fun K hK => ?_)); (focus kernel_rfl); (focus kernel_rfl); simp only [zl])
                        | ((with_reducible first | apply T_cond_seq | apply T_cond); (focus rfl))
                        | (intro hg; (first | (simp only [zb] at hg; done) | ((try simp only [zb, eq_self] at hg); (have hh : True := hg); clear hh hg) | ((try simp only [zb] at hg); (try (have hh := hg; simp only [hh]; clear hh)); (try simp only [zg, zq, ne_eq, gt_iff_lt, ge_iff_le] at hg); (try (exfalso; omega)))))
                        | with_reducible first | apply T_seq_assoc | apply T_skip_seq | apply T_ret_seq | apply T_exit_seq | apply T_ret | apply T_skip | apply T_exit | refine T_block_seq fun Kb hKb => ?_ | apply T_block
                        | (simp only [TX.inBlock, TX.then, zi, Nat.reduceEqDiff])
                        | ((with_reducible first | refine hR _ _ (fun C cc => ?_) | refine hN _ _ (fun C cc => ?_)); simp (disch := ((try simp only [List.length_append, List.length_cons, List.length_nil, List.length_replicate, List.length_take, List.length_drop, be_len]); omega)) only [go_sem]; (with_reducible apply cc); clear cc C; (first | refine Ends.more (by first | rfl | simp only [go_sem, Bool.and_self]) ?_ | refine Ends.same (by first | rfl | simp only [go_sem, Bool.and_self]) ?_); (try simp only [go_sem, Bool.and_self]))
                        | (with_reducible apply_assumption -exfalso -symm only [*]))
                      have J4 : ∀ (ρ : TS) (ps : Row Port) (m9 : TL), Fits [none, none, some (some (.ptr σ.length 0)), none, none, none, some (some (.ptr (σ.length + 1) 0)), some (some (.ptr (σ.length + 2) 0)), none, none, none, none, none, none, none, none, none, none, none, none, none, none, none, none, none, none, none, none, none, none, none, none, none, none, none, none, none, none, none, none, none, none, none, none, none, none, none, none, none, none, none, none, none, none, none, none, none, none, none, none, none, none, none, none, none, none, none, none, none, none, none, none, none, none, none, none, none, none, none, none, none, none, none, none, none, none, none, none, none, none, none, none, none, none, none, none, none, none, none, none, none, none, none, none, none, none, none, none, none, none, none, none, none, none, none, none, none, none, none, none, none, none, none, none, none, none, none, none, none, none, none, none, none, none, none, none, none, none, none, none, none, none, none, none, none, none, none, none, none, none, none, none, none, none, none, none, none, none, none, none, none, none, none, none, none, none, none, none, none, none, none, none, none, none, none, none, none, none, none, none, none, none, none, none, none, none, none, none, none, none, none, none, none, none, none, none, none, none, none, none, none, none, none, none, none, none, none, none, none, none, none, none, none, none, none, none, none, none, none, none, none, none, none, none, none, none, none, none, none, none, none, none, none, none, none, none, none, none, none, none, none, none, none, none, none, none, none, none, none, none, none, none, none, none, none, none, none, none, none, none, none, none, none, none, none, none, none, none, none, none, none, none, none, none, none, none, none] m9 → (qb = false ∧ (qx4.2 = 0 → ps = rowOf qa4)) → Kb m9 (σ ++ zC :: .cells (rC qx4.1 qx4.2) :: .cells [.int .i64 v1, rowTV intC (rowOf qa1), .int .i64 v2, rowTV winC (rowOf qa2), rowTV linkC (rowOf qa3), rowTV portC ps] :: ρ) := by
                        intro ρ ps m9 hf9 h9
                        obtain ⟨q, rfl⟩ := hf9.fill 0
                        obtain ⟨hqb, hps⟩ := h9
                        apply hKb
                        show Tw _ _ _ _ ([q 0, q 1, some (.ptr σ.length 0), q 3, q 4, q 5, some (.ptr (σ.length + 1) 0), some (.ptr (σ.length + 2) 0), q 8, q 9, q 10, q 11, q 12, q 13, q 14, q 15, q 16, q 17, q 18, q 19, q 20, q 21, q 22, q 23, q 24, q 25, q 26, q 27, q 28, q 29, q 30, q 31, q 32, q 33, q 34, q 35, q 36, q 37, q 38, q 39, q 40, q 41, q 42, q 43, q 44, q 45, q 46, q 47, q 48, q 49, q 50, q 51, q 52, q 53, q 54, q 55, q 56, q 57, q 58, q 59, q 60, q 61, q 62, q 63, q 64, q 65, q 66, q 67, q 68, q 69, q 70, q 71, q 72, q 73, q 74, q 75, q 76, q 77, q 78, q 79, q 80, q 81, q 82, q 83, q 84, q 85, q 86, q 87, q 88, q 89, q 90, q 91, q 92, q 93, q 94, q 95, q 96, q 97, q 98, q 99, q 100, q 101, q 102, q 103, q 104, q 105, q 106, q 107, q 108, q 109, q 110, q 111, q 112, q 113, q 114, q 115, q 116, q 117, q 118, q 119, q 120, q 121, q 122, q 123, q 124, q 125, q 126, q 127, q 128, q 129, q 130, q 131, q 132, q 133, q 134, q 135, q 136, q 137, q 138, q 139, q 140, q 141, q 142, q 143, q 144, q 145, q 146, q 147, q 148, q 149, q 150, q 151, q 152, q 153, q 154, q 155, q 156, q 157, q 158, q 159, q 160, q 161, q 162, q 163, q 164, q 165, q 166, q 167, q 168, q 169, q 170, q 171, q 172, q 173, q 174, q 175, q 176, q 177, q 178, q 179, q 180, q 181, q 182, q 183, q 184, q 185, q 186, q 187, q 188, q 189, q 190, q 191, q 192, q 193, q 194, q 195, q 196, q 197, q 198, q 199, q 200, q 201, q 202, q 203, q 204, q 205, q 206, q 207, q 208, q 209, q 210, q 211, q 212, q 213, q 214, q 215, q 216, q 217, q 218, q 219, q 220, q 221, q 222, q 223, q 224, q 225, q 226, q 227, q 228, q 229, q 230, q 231, q 232, q 233, q 234, q 235, q 236, q 237, q 238, q 239, q 240, q 241, q 242, q 243, q 244, q 245, q 246, q 247, q 248, q 249, q 250, q 251, q 252, q 253, q 254, q 255, q 256, q 257, q 258, q 259, q 260, q 261, q 262, q 263, q 264, q 265, q 266, q 267, q 268, q 269, q 270, q 271, q 272, q 273, q 274, q 275, q 276]) (σ ++ zC :: .cells (rC qx4.1 qx4.2) :: .cells [.int .i64 v1, rowTV intC (rowOf qa1), .int .i64 v2, rowTV winC (rowOf qa2), rowTV linkC (rowOf qa3), rowTV portC ps] :: ρ)
                        clear ho hmg hdr hd hx0 a1 a2 a3 a4 a5 a6 l1 l2 l3 l4 l5 l6 l7 l8 l9 eq1 eq2 eq3 eq4 eqb w1 w2 w3 w4
                        rw [if_neg (by rw [hqb]; decide)] at hS
                        obtain ⟨qr, qe⟩ := qx4
                        dsimp only at hps hck hS ⊢
                        by_cases he : qe = 0
                        · subst he
                          obtain rfl := hps rfl
                          have hck := hck rfl
                          rw [if_neg (by simp)] at hS
                          cases qr with
                          | cons q0 qr =>
                            rw [if_pos (by simp)] at hS
                            subst hS
                            have hne : (B (q0 :: qr) != (⟨#[]⟩ : ByteArray)) = true := rfl
                            as_aux_lemma =>
                              have FK := zdum; have FD := @hne; have FL := zdum
                              refine walk ?_
                              (repeat' first | exact Lv.nil | apply Lv.cons) <;> (intros; clear FL FD FK)
                              all_goals rfl
                          | nil =>
                            rw [if_neg (by simp)] at hS
                            have hne : (B [] != (⟨#[]⟩ : ByteArray)) = false := by decide
                            by_cases hc : cw.2.2 = 0
                            · rw [if_neg (by omega)] at hS
                              subst hS
                              as_aux_lemma =>
                                have FK := @hc; have FD := @hne; have FL := zdum; have cA := @hck
                                refine walk ?_
                                (repeat' first | exact Lv.nil | apply Lv.cons) <;> (intros; clear cA FL FD FK)
                                all_goals rfl
                            · rw [if_pos hc] at hS
                              subst hS
                              as_aux_lemma =>
                                have FK := @hc; have FD := @hne; have FL := zdum; have cA := @hck
                                refine walk ?_
                                (repeat' first | exact Lv.nil | apply Lv.cons) <;> (intros; clear cA FL FD FK)
                                all_goals rfl
                        · rw [if_pos he] at hS
                          subst hS
                          as_aux_lemma =>
                            have FK := @he; have FD := zdum; have FL := zdum
                            refine walk ?_
                            (repeat' first | exact Lv.nil | apply Lv.cons) <;> (intros; clear FL FD FK)
                            all_goals rfl
                      clear hKb
                      refine T_each (α := Nat × Nat × RSt × (List Port) × Bool × TV × TS) (fun (i, k, x, acc, w, lv, ρ) => [none, none, some (some (.ptr σ.length 0)), none, none, none, some (some (.ptr (σ.length + 1) 0)), some (some (.ptr (σ.length + 2) 0)), some (some (.int .i64 N4)), none, none, none, none, none, none, none, none, some (some (.bool w)), some (some (.int .i64 i)), none, none, none, none, none, none, none, none, none, none, none, none, none, none, none, none, none, none, none, none, none, none, none, none, none, none, none, none, none, none, none, none, none, none, none, none, none, none, none, none, none, none, none, none, none, none, none, none, none, none, none, none, none, none, none, none, none, none, none, none, none, none, none, none, none, none, none, none, none, none, none, none, none, none, none, none, none, none, none, none, none, none, none, none, none, none, none, none, none, none, none, none, none, none, none, none, none, none, none, none, none, none, none, none, none, none, none, none, none, none, none, none, none, none, none, none, none, none, none, none, none, none, none, none, none, none, none, none, none, none, none, none, none, none, none, none, none, none, none, none, none, none, none, none, none, none, none, none, none, none, none, none, none, none, none, none, none, none, none, none, none, none, none, none, none, none, none, none, none, none, none, none, none, none, none, none, none, none, none, none, none, none, none, none, none, none, none, none, none, none, none, none, none, none, none, none, none, none, none, none, none, none, none, none, none, none, none, none, none, none, none, none, none, none, none, none, none, none, none, none, none, none, none, none, none, none, none, none, none, none, none, none, none, none, none, none, none, none, none, none, none, none, none, none, none, none, none, none, none, none, none, none, none, none, none, none, none, none]) (fun (i, k, x, acc, w, lv, ρ) => i + k = N4 ∧ (x.2 = 0 → w = false ∧ qa4 = acc ++ (tkN portR k x).1 ∧ qx4 = (tkN portR k x).2 ∧ qb = badN k x) ∧ (x.2 ≠ 0 → qx4 = x ∧ qb = false) ∧ x.1.length ≤ 100000 ∧ acc.length = i ∧ Acc (σ.length + 3) 11 portC acc lv ρ) (fun (i, k, x, acc, w, lv, ρ) => k) (fun (i, k, x, acc, w, lv, ρ) => σ ++ zC :: .cells (rC x.1 x.2) :: .cells [.int .i64 v1, rowTV intC (rowOf qa1), .int .i64 v2, rowTV winC (rowOf qa2), rowTV linkC (rowOf qa3), lv] :: ρ) ?_ ?_
                      · refine ⟨(0, N4, s6, [], false, .nils, ρ), ⟨rfl, rfl, rfl, rfl, rfl, rfl, trivial⟩, ⟨by omega, fun h => ⟨rfl, ?_, ?_, eqb⟩, fun h => ?_, l9, rfl, Acc.nil⟩, rfl⟩
                        · rw [← eq4]; rfl
                        · rw [← eq4]
                        · rw [tkN_err h] at eq4
                          cases eq4
                          exact ⟨rfl, by rw [eqb, badN_err h]⟩
                      · rintro ⟨i, k, x, acc, w, lv, ρ⟩ q ⟨hik, hok, hbad, hx, hal, hacc⟩
                        show Tw _ _ _ _ ([q 0, q 1, some (.ptr σ.length 0), q 3, q 4, q 5, some (.ptr (σ.length + 1) 0), some (.ptr (σ.length + 2) 0), some (.int .i64 N4), q 9, q 10, q 11, q 12, q 13, q 14, q 15, q 16, some (.bool w), some (.int .i64 i), q 19, q 20, q 21, q 22, q 23, q 24, q 25, q 26, q 27, q 28, q 29, q 30, q 31, q 32, q 33, q 34, q 35, q 36, q 37, q 38, q 39, q 40, q 41, q 42, q 43, q 44, q 45, q 46, q 47, q 48, q 49, q 50, q 51, q 52, q 53, q 54, q 55, q 56, q 57, q 58, q 59, q 60, q 61, q 62, q 63, q 64, q 65, q 66, q 67, q 68, q 69, q 70, q 71, q 72, q 73, q 74, q 75, q 76, q 77, q 78, q 79, q 80, q 81, q 82, q 83, q 84, q 85, q 86, q 87, q 88, q 89, q 90, q 91, q 92, q 93, q 94, q 95, q 96, q 97, q 98, q 99, q 100, q 101, q 102, q 103, q 104, q 105, q 106, q 107, q 108, q 109, q 110, q 111, q 112, q 113, q 114, q 115, q 116, q 117, q 118, q 119, q 120, q 121, q 122, q 123, q 124, q 125, q 126, q 127, q 128, q 129, q 130, q 131, q 132, q 133, q 134, q 135, q 136, q 137, q 138, q 139, q 140, q 141, q 142, q 143, q 144, q 145, q 146, q 147, q 148, q 149, q 150, q 151, q 152, q 153, q 154, q 155, q 156, q 157, q 158, q 159, q 160, q 161, q 162, q 163, q 164, q 165, q 166, q 167, q 168, q 169, q 170, q 171, q 172, q 173, q 174, q 175, q 176, q 177, q 178, q 179, q 180, q 181, q 182, q 183, q 184, q 185, q 186, q 187, q 188, q 189, q 190, q 191, q 192, q 193, q 194, q 195, q 196, q 197, q 198, q 199, q 200, q 201, q 202, q 203, q 204, q 205, q 206, q 207, q 208, q 209, q 210, q 211, q 212, q 213, q 214, q 215, q 216, q 217, q 218, q 219, q 220, q 221, q 222, q 223, q 224, q 225, q 226, q 227, q 228, q 229, q 230, q 231, q 232, q 233, q 234, q 235, q 236, q 237, q 238, q 239, q 240, q 241, q 242, q 243, q 244, q 245, q 246, q 247, q 248, q 249, q 250, q 251, q 252, q 253, q 254, q 255, q 256, q 257, q 258, q 259, q 260, q 261, q 262, q 263, q 264, q 265, q 266, q 267, q 268, q 269, q 270, q 271, q 272, q 273, q 274, q 275, q 276]) (σ ++ zC :: .cells (rC x.1 x.2) :: .cells [.int .i64 v1, rowTV intC (rowOf qa1), .int .i64 v2, rowTV winC (rowOf qa2), rowTV linkC (rowOf qa3), lv] :: ρ)
                        have hal2 : acc.length ≤ 70000 := by omega
                        by_cases hgo : k = 0 ∨ x.2 ≠ 0
                        · have hend : qx4 = x ∧ qb = false ∧ (x.2 = 0 → qa4 = acc) := by
                            by_cases he : x.2 = 0
                            · obtain rfl : k = 0 := by omega
                              obtain ⟨_, h1, h2, h3⟩ := hok he
                              rw [tkN] at h1 h2
                              rw [badN] at h3
                              exact ⟨h2, h3, fun _ => by simpa using h1⟩
                            · exact ⟨(hbad he).1, (hbad he).2, fun h => absurd h he⟩
                          obtain ⟨e1, e2, e3⟩ := hend
                          clear hok hbad
                          subst e1
                          apply T_seq_assoc
                          refine T_letgo (l := σ.length + 2) (cs := [.int .i64 v1, rowTV intC (rowOf qa1), .int .i64 v2, rowTV winC (rowOf qa2), rowTV linkC (rowOf qa3), lv]) ?_ ?_
                          · rw [get_app]; rfl
                          rw [set_app]
                          simp only [List.set_cons_succ, List.set_cons_zero, List.map_cons, List.map_nil, hacc.letgo, lg_int, lg_nils, lg_row]
                          rcases hgo with rfl | he
                          · as_aux_lemma =>
                              have FK := zdum; have FD := zdum; have FL := zdum
                              refine walk ?_
                              (repeat' first | exact Lv.nil | apply Lv.cons) <;> (intros; clear FL FD FK)
                              all_goals (first | exact ⟨rfl, rfl, rfl, trivial⟩ | exact ⟨e2, fun h => by rw [e3 h]⟩)
                          · as_aux_lemma =>
                              have FK := @he; have FD := zdum; have FL := zdum
                              refine walk ?_
                              (repeat' first | exact Lv.nil | apply Lv.cons) <;> (intros; clear FL FD FK)
                              all_goals (first | exact ⟨rfl, rfl, rfl, trivial⟩ | exact ⟨e2, fun h => by rw [e3 h]⟩)
                        · obtain ⟨k, rfl⟩ : ∃ m, k = m + 1 := ⟨k - 1, by omega⟩
                          have he : x.2 = 0 := by omega
                          obtain ⟨hw0, h1, h2, h3⟩ := hok he
                          subst hw0
                          clear hok hbad hgo
                          obtain ⟨xr, xe⟩ := x
                          dsimp only at he hx
                          subst he
                          rw [tkN_ok rfl] at h1 h2
                          rw [badN_ok rfl] at h3
                          obtain ⟨x1, ex1⟩ : ∃ x', x' = rS 4 (xr, 0) := ⟨_, rfl⟩
                          obtain ⟨x2, ex2⟩ : ∃ x', x' = rS 2 x1 := ⟨_, rfl⟩
                          obtain ⟨x3, ex3⟩ : ∃ x', x' = rS 2 x2 := ⟨_, rfl⟩
                          obtain ⟨x4, ex4⟩ : ∃ x', x' = rS 1 x3 := ⟨_, rfl⟩
                          obtain ⟨x5, ex5⟩ : ∃ x', x' = rS 2 x4 := ⟨_, rfl⟩
                          obtain ⟨x6, ex6⟩ : ∃ x', x' = rS 2 x5 := ⟨_, rfl⟩
                          obtain ⟨x7, ex7⟩ : ∃ x', x' = rS 2 x6 := ⟨_, rfl⟩
                          obtain ⟨x8, ex8⟩ : ∃ x', x' = rS 2 x7 := ⟨_, rfl⟩
                          obtain ⟨x9, ex9⟩ : ∃ x', x' = rS 4 x8 := ⟨_, rfl⟩
                          obtain ⟨x', ex⟩ : ∃ x', x' = rS 4 x9 := ⟨_, rfl⟩
                          obtain ⟨u1, eu1⟩ : ∃ v, v = rV 4 (xr, 0) := ⟨_, rfl⟩
                          obtain ⟨u2, eu2⟩ : ∃ v, v = rV 2 x1 := ⟨_, rfl⟩
                          obtain ⟨u3, eu3⟩ : ∃ v, v = rV 2 x2 := ⟨_, rfl⟩
                          obtain ⟨u4, eu4⟩ : ∃ v, v = rV 1 x3 := ⟨_, rfl⟩
                          obtain ⟨u5, eu5⟩ : ∃ v, v = rV 2 x4 := ⟨_, rfl⟩
                          obtain ⟨u6, eu6⟩ : ∃ v, v = rV 2 x5 := ⟨_, rfl⟩
                          obtain ⟨u7, eu7⟩ : ∃ v, v = rV 2 x6 := ⟨_, rfl⟩
                          obtain ⟨u8, eu8⟩ : ∃ v, v = rV 2 x7 := ⟨_, rfl⟩
                          obtain ⟨hi, ehi⟩ : ∃ v, v = rV 4 x8 := ⟨_, rfl⟩
                          obtain ⟨lo, elo⟩ : ∃ v, v = rV 4 x9 := ⟨_, rfl⟩
                          have p10 : port10 (xr, 0) = x' := by rw [port10, ← ex1, ← ex2, ← ex3, ← ex4, ← ex5, ← ex6, ← ex7, ← ex8, ← ex9, ← ex]
                          have pHi : portHi (xr, 0) = hi := by rw [portHi, ← ex1, ← ex2, ← ex3, ← ex4, ← ex5, ← ex6, ← ex7, ← ex8, ← ehi]
                          have pLo : portLo (xr, 0) = lo := by rw [portLo, ← ex1, ← ex2, ← ex3, ← ex4, ← ex5, ← ex6, ← ex7, ← ex8, ← ex9, ← elo]
                          have pN : portN (xr, 0) = u4 := by rw [portN, ← ex1, ← ex2, ← ex3, ← eu4]
                          have p0 : ∀ f, port0 (xr, 0) f = ⟨u1, u2, u3, u4 / 64, u4 / 32 % 2 == 1, u5, u4 % 32, u6, u7, u8, f⟩ := fun f => by
                            rw [port0, pN, ← ex1, ← ex2, ← ex3, ← ex4, ← ex5, ← ex6, ← ex7, ← eu1, ← eu2, ← eu3, ← eu5, ← eu6, ← eu7, ← eu8]
                          have hTF : TooFresh (xr, 0) ↔ (x'.2 = 0 ∧ hi * 4294967296 + lo > 1099511627776) := by
                            show ((port10 (xr, 0)).2 = 0 ∧ portHi (xr, 0) * 4294967296 + portLo (xr, 0) > 1099511627776) ↔ _
                            rw [p10, pHi, pLo]
                          have r4 := rV1_le x3
                          rw [← eu4] at r4
                          have rhi := rV_range (k := 4) x8 (by omega)
                          have rlo := rV_range (k := 4) x9 (by omega)
                          rw [← ehi, show (256 : Int) ^ 4 = 4294967296 by decide] at rhi
                          rw [← elo, show (256 : Int) ^ 4 = 4294967296 by decide] at rlo
                          have hx1 : x1.1.length ≤ 100000 := by rw [ex1]; exact Nat.le_trans (rS_le 4 (xr, 0)) hx
                          have hx2 : x2.1.length ≤ 100000 := by rw [ex2]; exact Nat.le_trans (rS_le 2 x1) hx1
                          have hx3 : x3.1.length ≤ 100000 := by rw [ex3]; exact Nat.le_trans (rS_le 2 x2) hx2
                          have hx4 : x4.1.length ≤ 100000 := by rw [ex4]; exact Nat.le_trans (rS_le 1 x3) hx3
                          have hx5 : x5.1.length ≤ 100000 := by rw [ex5]; exact Nat.le_trans (rS_le 2 x4) hx4
                          have hx6 : x6.1.length ≤ 100000 := by rw [ex6]; exact Nat.le_trans (rS_le 2 x5) hx5
                          have hx7 : x7.1.length ≤ 100000 := by rw [ex7]; exact Nat.le_trans (rS_le 2 x6) hx6
                          have hx8 : x8.1.length ≤ 100000 := by rw [ex8]; exact Nat.le_trans (rS_le 2 x7) hx7
                          have hx9 : x9.1.length ≤ 100000 := by rw [ex9]; exact Nat.le_trans (rS_le 4 x8) hx8
                          have hx' : x'.1.length ≤ 100000 := by rw [ex]; exact Nat.le_trans (rS_le 4 x9) hx9
                          have b1 := fun A ρ => num_at (σ := σ) 4 (by omega) rfl hx ex1 eu1 A ρ
                          have b2 := fun A ρ => num_at (σ := σ) 2 (by omega) rfl hx1 ex2 eu2 A ρ
                          have b3 := fun A ρ => num_at (σ := σ) 2 (by omega) rfl hx2 ex3 eu3 A ρ
                          have b4 := fun A ρ => num_at (σ := σ) 1 (by omega) rfl hx3 ex4 eu4 A ρ
                          have b5 := fun A ρ => num_at (σ := σ) 2 (by omega) rfl hx4 ex5 eu5 A ρ
                          have b6 := fun A ρ => num_at (σ := σ) 2 (by omega) rfl hx5 ex6 eu6 A ρ
                          have b7 := fun A ρ => num_at (σ := σ) 2 (by omega) rfl hx6 ex7 eu7 A ρ
                          have b8 := fun A ρ => num_at (σ := σ) 2 (by omega) rfl hx7 ex8 eu8 A ρ
                          have b9 := fun A ρ => num_at (σ := σ) 4 (by omega) rfl hx8 ex9 ehi A ρ
                          have b10 := fun A ρ => num_at (σ := σ) 4 (by omega) rfl hx9 ex elo A ρ
                          dsimp only at b1
                          have q64 : IntKind.i64.wrap (u4.tdiv 64) = u4 / 64 := by rw [Int.tdiv_eq_ediv_of_nonneg r4.1, wrap64_of (by omega) (by omega)]
                          have q32 : IntKind.i64.wrap (u4.tdiv 32) = u4 / 32 := by rw [Int.tdiv_eq_ediv_of_nonneg r4.1, wrap64_of (by omega) (by omega)]
                          have q2 : (u4 / 32).tmod 2 = u4 / 32 % 2 := Int.tmod_eq_emod_of_nonneg (by omega)
                          have q31 : u4.tmod 32 = u4 % 32 := Int.tmod_eq_emod_of_nonneg r4.1
                          have hpf : ¬ TooFresh (xr, 0) → portR (xr, 0) = (port0 (xr, 0) (ior .i64 (ishl .i64 hi 32) lo), x') := fun h => by rw [portR, if_neg h, pHi, pLo, p10]
                          clear ex ex1 ex2 ex3 ex4 ex5 ex6 ex7 ex8 ex9 eu1 eu2 eu3 eu4 eu5 eu6 eu7 eu8 ehi elo p10 pHi pLo pN hx1 hx2 hx3 hx4 hx5 hx6 hx7 hx8 hx9
                          clear ho hmg hdr hd hx0 a1 a2 a3 a4 a5 a6 l1 l2 l3 l4 l5 l6 l7 l8 l9 eq1 eq2 eq3 eq4 eqb w1 w2 w3 hck
                          generalize u4 / 64 = f64 at *
                          generalize u4 / 32 % 2 = f2 at *
                          generalize u4 % 32 = f31 at *
                          by_cases hF : hi * 4294967296 + lo > 1099511627776
                          · by_cases hz : x'.2 = 0
                            · have hq : qb = true := by rw [h3, decide_eq_true (hTF.2 ⟨hz, hF⟩)]; rfl
                              rw [if_pos hq] at hS
                              subst hS
                              clear hpf hTF h1 h2 h3 p0
                              obtain ⟨yr, ye⟩ := x'
                              dsimp only at hz
                              subst hz
                              as_aux_lemma =>
                                have FK := And.intro @q64 (And.intro @q32 (And.intro @q2 (@q31))); have FD := zdum; have FL := zdum; have dA := @b1; have dB := @b2; have dC := @b3; have dD := @b4; have dE := @b5; have dF := @b6; have dG := @b7; have dH := @b8; have dI := @b9; have dJ := @b10
                                refine walk ?_
                                (repeat' first | exact Lv.nil | apply Lv.cons) <;> (intros; clear dJ dI dH dG dF dE dD dC dB dA FL FD FK)
                                all_goals rfl
                            · have hn : ¬ TooFresh (xr, 0) := fun h => hz (hTF.1 h).1
                              rw [hpf hn] at h2 h3
                              dsimp only at h2 h3
                              rw [tkN_err hz] at h2
                              rw [badN_err hz, decide_eq_false hn] at h3
                              obtain ⟨v, ev⟩ : ∃ v : Port, v = ⟨u1, u2, u3, f64, f2 == 1, u5, f31, u6, u7, u8, lo⟩ := ⟨_, rfl⟩
                              obtain ⟨lv', ρ', happ, hacc'⟩ := acc_step (π := σ ++ [zC, .cells (rC x'.1 x'.2), .cells [.int .i64 v1, rowTV intC (rowOf qa1), .int .i64 v2, rowTV winC (rowOf qa2), rowTV linkC (rowOf qa3), lv]]) (v := v) app0P app1P (fun _ => rfl) (hacc.more [.cells (portC v)]) (by omega) (by simp)
                              have hbs := fun τ => bsP τ v
                              simp only [List.append_assoc, List.cons_append, List.nil_append, ev] at happ hbs
                              have ho1 := hacc'.one
                              have hc1 := hacc'.cells
                              clear hpf hTF h1 p0 hn
                              as_aux_lemma =>
                                have FK := And.intro @q64 (And.intro @q32 (And.intro @q2 (And.intro @q31 (@hz)))); have FD := And.intro @happ (And.intro @hbs (And.intro @ho1 (@hc1))); have FL := zdum; have dA := @b1; have dB := @b2; have dC := @b3; have dD := @b4; have dE := @b5; have dF := @b6; have dG := @b7; have dH := @b8; have dI := @b9; have dJ := @b10
                                refine walk ?_
                                (repeat' first | exact Lv.nil | apply Lv.cons) <;> (intros; clear dJ dI dH dG dF dE dD dC dB dA FL FD FK)
                                all_goals (refine ⟨(i + 1, k, x', acc ++ [v], true, lv', ρ'), ?_, ?_, ⟨?_, fun h => absurd h hz, fun _ => ⟨h2, h3⟩, hx', ?_, hacc'⟩, rfl⟩)
                                all_goals (first | (dsimp only; omega) | (dsimp only; exact ⟨rfl, rfl, rfl, rfl, rfl, rfl, trivial⟩) | (simp only [List.length_append, List.length_singleton]; omega))
                          · have hn : ¬ TooFresh (xr, 0) := fun h => hF (hTF.1 h).2
                            rw [hpf hn] at h1 h2 h3
                            rw [decide_eq_false hn, Bool.false_or] at h3
                            rw [or_sum (by omega) (by omega) (by omega), p0] at h1
                            dsimp only at h1 h2 h3
                            obtain ⟨v, ev⟩ : ∃ v : Port, v = ⟨u1, u2, u3, f64, f2 == 1, u5, f31, u6, u7, u8, lo + hi * 4294967296⟩ := ⟨_, rfl⟩
                            rw [← ev] at h1
                            obtain ⟨lv', ρ', happ, hacc'⟩ := acc_step (π := σ ++ [zC, .cells (rC x'.1 x'.2), .cells [.int .i64 v1, rowTV intC (rowOf qa1), .int .i64 v2, rowTV winC (rowOf qa2), rowTV linkC (rowOf qa3), lv]]) (v := v) app0P app1P (fun _ => rfl) (hacc.more [.cells (portC v)]) (by omega) (by simp)
                            have hbs := fun τ => bsP τ v
                            simp only [List.append_assoc, List.cons_append, List.nil_append, ev] at happ hbs
                            have ho1 := hacc'.one
                            have hc1 := hacc'.cells
                            clear hpf hTF p0 hn
                            as_aux_lemma =>
                              have FK := And.intro @q64 (And.intro @q32 (And.intro @q2 (@q31))); have FD := And.intro @happ (And.intro @hbs (And.intro @ho1 (@hc1))); have FL := zdum; have dA := @b1; have dB := @b2; have dC := @b3; have dD := @b4; have dE := @b5; have dF := @b6; have dG := @b7; have dH := @b8; have dI := @b9; have dJ := @b10
                              refine walk ?_
                              (repeat' first | exact Lv.nil | apply Lv.cons) <;> (intros; clear dJ dI dH dG dF dE dD dC dB dA FL FD FK)
                              all_goals (refine ⟨(i + 1, k, x', acc ++ [v], false, lv', ρ'), ?_, ?_, ⟨?_, fun h => ⟨rfl, by rw [h1]; simp, h2, h3⟩, fun h => ?_, hx', ?_, hacc'⟩, rfl⟩)
                              all_goals (first | (dsimp only; omega) | (dsimp only; exact ⟨rfl, rfl, rfl, rfl, rfl, rfl, trivial⟩) | (simp only [List.length_append, List.length_singleton]; omega) | (rw [tkN_err h] at h2; rw [badN_err h] at h3; exact ⟨h2, h3⟩))
                  clear hKb
                  refine T_each (α := Nat × Nat × RSt × (List Link) × TV × TS) (fun (i, k, x, acc, lv, ρ) => [none, none, some (some (.ptr σ.length 0)), none, none, none, some (some (.ptr (σ.length + 1) 0)), some (some (.ptr (σ.length + 2) 0)), some (some (.int .i64 N3)), none, none, none, some (some (.int .i64 i)), none, none, none, none, none, none, none, none, none, none, none, none, none, none, none, none, none, none, none, none, none, none, none, none, none, none, none, none, none, none, none, none, none, none, none, none, none, none, none, none, none, none, none, none, none, none, none, none, none, none, none, none, none, none, none, none, none, none, none, none, none, none, none, none, none, none, none, none, none, none, none, none, none, none, none, none, none, none, none, none, none, none, none, none, none, none, none, none, none, none, none, none, none, none, none, none, none, none, none, none, none, none, none, none, none, none, none, none, none, none, none, none, none, none, none, none, none, none, none, none, none, none, none, none, none, none, none, none, none, none, none, none, none, none, none, none, none, none, none, none, none, none, none, none, none, none, none, none, none, none, none, none, none, none, none, none, none, none, none, none, none, none, none, none, none, none, none, none, none, none, none, none, none, none, none, none, none, none, none, none, none, none, none, none, none, none, none, none, none, none, none, none, none, none, none, none, none, none, none, none, none, none, none, none, none, none, none, none, none, none, none, none, none, none, none, none, none, none, none, none, none, none, none, none, none, none, none, none, none, none, none, none, none, none, none, none, none, none, none, none, none, none, none, none, none, none, none, none, none, none, none, none, none, none, none, none, none, none, none, none, none, none, none, none]) (fun (i, k, x, acc, lv, ρ) => i + k = N3 ∧ (qa3, qx3) = (acc ++ (tkN linkR k x).1, (tkN linkR k x).2) ∧ x.1.length ≤ 100000 ∧ acc.length = i ∧ Acc (σ.length + 3) 8 linkC acc lv ρ) (fun (i, k, x, acc, lv, ρ) => k) (fun (i, k, x, acc, lv, ρ) => σ ++ zC :: .cells (rC x.1 x.2) :: .cells [.int .i64 v1, rowTV intC (rowOf qa1), .int .i64 v2, rowTV winC (rowOf qa2), lv, .nils] :: ρ) ?_ ?_
                  · exact ⟨(0, N3, s5, [], .nils, ρ), ⟨rfl, rfl, rfl, rfl, rfl, trivial⟩, ⟨by omega, eq3, l7, rfl, Acc.nil⟩, rfl⟩
                  · rintro ⟨i, k, x, acc, lv, ρ⟩ q ⟨hik, hk, hx, hal, hacc⟩
                    show Tw _ _ _ _ ([q 0, q 1, some (.ptr σ.length 0), q 3, q 4, q 5, some (.ptr (σ.length + 1) 0), some (.ptr (σ.length + 2) 0), some (.int .i64 N3), q 9, q 10, q 11, some (.int .i64 i), q 13, q 14, q 15, q 16, q 17, q 18, q 19, q 20, q 21, q 22, q 23, q 24, q 25, q 26, q 27, q 28, q 29, q 30, q 31, q 32, q 33, q 34, q 35, q 36, q 37, q 38, q 39, q 40, q 41, q 42, q 43, q 44, q 45, q 46, q 47, q 48, q 49, q 50, q 51, q 52, q 53, q 54, q 55, q 56, q 57, q 58, q 59, q 60, q 61, q 62, q 63, q 64, q 65, q 66, q 67, q 68, q 69, q 70, q 71, q 72, q 73, q 74, q 75, q 76, q 77, q 78, q 79, q 80, q 81, q 82, q 83, q 84, q 85, q 86, q 87, q 88, q 89, q 90, q 91, q 92, q 93, q 94, q 95, q 96, q 97, q 98, q 99, q 100, q 101, q 102, q 103, q 104, q 105, q 106, q 107, q 108, q 109, q 110, q 111, q 112, q 113, q 114, q 115, q 116, q 117, q 118, q 119, q 120, q 121, q 122, q 123, q 124, q 125, q 126, q 127, q 128, q 129, q 130, q 131, q 132, q 133, q 134, q 135, q 136, q 137, q 138, q 139, q 140, q 141, q 142, q 143, q 144, q 145, q 146, q 147, q 148, q 149, q 150, q 151, q 152, q 153, q 154, q 155, q 156, q 157, q 158, q 159, q 160, q 161, q 162, q 163, q 164, q 165, q 166, q 167, q 168, q 169, q 170, q 171, q 172, q 173, q 174, q 175, q 176, q 177, q 178, q 179, q 180, q 181, q 182, q 183, q 184, q 185, q 186, q 187, q 188, q 189, q 190, q 191, q 192, q 193, q 194, q 195, q 196, q 197, q 198, q 199, q 200, q 201, q 202, q 203, q 204, q 205, q 206, q 207, q 208, q 209, q 210, q 211, q 212, q 213, q 214, q 215, q 216, q 217, q 218, q 219, q 220, q 221, q 222, q 223, q 224, q 225, q 226, q 227, q 228, q 229, q 230, q 231, q 232, q 233, q 234, q 235, q 236, q 237, q 238, q 239, q 240, q 241, q 242, q 243, q 244, q 245, q 246, q 247, q 248, q 249, q 250, q 251, q 252, q 253, q 254, q 255, q 256, q 257, q 258, q 259, q 260, q 261, q 262, q 263, q 264, q 265, q 266, q 267, q 268, q 269, q 270, q 271, q 272, q 273, q 274, q 275, q 276]) (σ ++ zC :: .cells (rC x.1 x.2) :: .cells [.int .i64 v1, rowTV intC (rowOf qa1), .int .i64 v2, rowTV winC (rowOf qa2), lv, .nils] :: ρ)
                    by_cases hgo : k = 0 ∨ x.2 ≠ 0
                    · obtain ⟨e1, e2⟩ : qa3 = acc ∧ qx3 = x := by
                        rcases hgo with rfl | he
                        · rw [tkN] at hk; simpa using hk
                        · rw [tkN_err he] at hk; simpa using hk
                      subst e1 e2
                      apply T_seq_assoc
                      refine T_letgo (l := σ.length + 2) (cs := [.int .i64 v1, rowTV intC (rowOf qa1), .int .i64 v2, rowTV winC (rowOf qa2), lv, .nils]) ?_ ?_
                      · rw [get_app]; rfl
                      rw [set_app]
                      simp only [List.set_cons_succ, List.set_cons_zero, List.map_cons, List.map_nil, hacc.letgo, lg_int, lg_nils, lg_row]
                      rcases hgo with rfl | he
                      · as_aux_lemma =>
                          have FK := zdum; have FD := zdum; have FL := zdum
                          refine walk ?_
                          (repeat' first | exact Lv.nil | apply Lv.cons) <;> (intros; clear FL FD FK)
                          all_goals (first | exact ⟨rfl, rfl, rfl, trivial⟩ | trivial)
                      · as_aux_lemma =>
                          have FK := @he; have FD := zdum; have FL := zdum
                          refine walk ?_
                          (repeat' first | exact Lv.nil | apply Lv.cons) <;> (intros; clear FL FD FK)
                          all_goals (first | exact ⟨rfl, rfl, rfl, trivial⟩ | trivial)
                    · obtain ⟨k, rfl⟩ : ∃ m, k = m + 1 := ⟨k - 1, by omega⟩
                      have he : x.2 = 0 := by omega
                      rw [tkN_ok he] at hk
                      obtain ⟨xr, xe⟩ := x
                      dsimp only at he hx
                      subst he
                      obtain ⟨x1, ex1⟩ : ∃ x', x' = rS 2 (xr, 0) := ⟨_, rfl⟩
                      obtain ⟨x2, ex2⟩ : ∃ x', x' = rS 2 x1 := ⟨_, rfl⟩
                      obtain ⟨x3, ex3⟩ : ∃ x', x' = rS 1 x2 := ⟨_, rfl⟩
                      obtain ⟨x4, ex4⟩ : ∃ x', x' = rS 2 x3 := ⟨_, rfl⟩
                      obtain ⟨x5, ex5⟩ : ∃ x', x' = rS 4 x4 := ⟨_, rfl⟩
                      obtain ⟨x6, ex6⟩ : ∃ x', x' = rS 2 x5 := ⟨_, rfl⟩
                      obtain ⟨u1, eu1⟩ : ∃ v, v = rV 2 (xr, 0) := ⟨_, rfl⟩
                      obtain ⟨u2, eu2⟩ : ∃ v, v = rV 2 x1 := ⟨_, rfl⟩
                      obtain ⟨u3, eu3⟩ : ∃ v, v = rV 1 x2 := ⟨_, rfl⟩
                      obtain ⟨u4, eu4⟩ : ∃ v, v = rV 2 x3 := ⟨_, rfl⟩
                      obtain ⟨u5, eu5⟩ : ∃ v, v = rV 4 x4 := ⟨_, rfl⟩
                      obtain ⟨u6, eu6⟩ : ∃ v, v = rV 2 x5 := ⟨_, rfl⟩
                      obtain ⟨⟨to, x'⟩, et⟩ : ∃ z, z = tkN intR u6.toNat x6 := ⟨_, rfl⟩
                      have r3 := rV1_le x2
                      have r6 := rV2_le x5
                      rw [← eu3] at r3
                      rw [← eu6] at r6
                      obtain ⟨M, rfl⟩ : ∃ M : Nat, u6 = M := ⟨u6.toNat, by omega⟩
                      rw [Int.toNat_natCast] at et
                      obtain ⟨v, ev⟩ : ∃ v : Link, v = ⟨u1, u2, u3 / 16, u4, u3 / 8 % 2 == 1, u3 % 8, u5, rowOf to⟩ := ⟨_, rfl⟩
                      have hk' : (qa3, qx3) = ((acc ++ [v]) ++ (tkN linkR k x').1, (tkN linkR k x').2) := by
                        have : linkR (xr, 0) = (v, x') := by
                          rw [linkR, ev, ← ex1, ← ex2, ← ex3, ← ex4, ← ex5, tk, ← ex6, ← eu1, ← eu2, ← eu3, ← eu4, ← eu5, ← eu6, Int.toNat_natCast, ← et]
                        rw [hk, this]; simp
                      have hx1 : x1.1.length ≤ 100000 := by rw [ex1]; exact Nat.le_trans (rS_le 2 (xr, 0)) hx
                      have hx2 : x2.1.length ≤ 100000 := by rw [ex2]; exact Nat.le_trans (rS_le 2 x1) hx1
                      have hx3 : x3.1.length ≤ 100000 := by rw [ex3]; exact Nat.le_trans (rS_le 1 x2) hx2
                      have hx4 : x4.1.length ≤ 100000 := by rw [ex4]; exact Nat.le_trans (rS_le 2 x3) hx3
                      have hx5 : x5.1.length ≤ 100000 := by rw [ex5]; exact Nat.le_trans (rS_le 4 x4) hx4
                      have hx6 : x6.1.length ≤ 100000 := by rw [ex6]; exact Nat.le_trans (rS_le 2 x5) hx5
                      have hx' : x'.1.length ≤ 100000 := by have := tkN_le (f := intR) (fun x => rS_le 2 x) M x6; rw [← et] at this; dsimp only at this; omega
                      have b1 := fun A ρ => num_at (σ := σ) 2 (by omega) rfl hx ex1 eu1 A ρ
                      have b2 := fun A ρ => num_at (σ := σ) 2 (by omega) rfl hx1 ex2 eu2 A ρ
                      have b3 := fun A ρ => num_at (σ := σ) 1 (by omega) rfl hx2 ex3 eu3 A ρ
                      have b4 := fun A ρ => num_at (σ := σ) 2 (by omega) rfl hx3 ex4 eu4 A ρ
                      have b5 := fun A ρ => num_at (σ := σ) 4 (by omega) rfl hx4 ex5 eu5 A ρ
                      have b6 := fun A ρ => num_at (σ := σ) 2 (by omega) rfl hx5 ex6 eu6 A ρ
                      dsimp only at b1
                      have q16 : IntKind.i64.wrap (u3.tdiv 16) = u3 / 16 := by rw [Int.tdiv_eq_ediv_of_nonneg r3.1, wrap64_of (by omega) (by omega)]
                      have q8 : IntKind.i64.wrap (u3.tdiv 8) = u3 / 8 := by rw [Int.tdiv_eq_ediv_of_nonneg r3.1, wrap64_of (by omega) (by omega)]
                      have q2 : (u3 / 8).tmod 2 = u3 / 8 % 2 := Int.tmod_eq_emod_of_nonneg (by omega)
                      have q7 : u3.tmod 8 = u3 % 8 := Int.tmod_eq_emod_of_nonneg r3.1
                      have hal2 : acc.length ≤ 70000 := by omega
                      clear ex1 ex2 ex3 ex4 ex5 ex6 eu1 eu2 eu3 eu4 eu5 eu6 hk r3
                      clear ho hmg hdr hd hx0 a1 a2 a3 a4 a5 a6 l1 l2 l3 l4 l5 l6 l7 l8 l9 eq1 eq2 eq3 eq4 eqb w1 w2 w3 w4 hck
                      generalize u3 / 16 = f16 at *
                      generalize u3 / 8 % 2 = f2 at *
                      generalize u3 % 8 = f8 at *
                      as_aux_lemma =>
                        repeat' (first
                          | ((first | (with_reducible refine WL_do fun Cw cw => ?_) | ((with_reducible apply WP_do); intro Cw cw)); (focus (first | ((with_reducible first | apply O_move | apply O_assign | apply O_pickV | apply O_extract | apply O_nilCheck); (repeat rfl)) | ((with_reducible first | apply O_load | apply O_fieldAddr | apply O_bin | apply O_len | apply O_store | apply O_alloc | apply O_box | apply O_build); (repeat rfl); simp (disch := omega) only [go_sem, q16, q8, q2, q7]) | ((with_reducible first | apply O_buildSlice | apply O_append); (repeat rfl); (try simp only [zc, zo, Nat.reduceBEq]); simp (disch := omega) only [go_sem, q16, q8, q2, q7]) | ((with_reducible apply O_sliceR); (focus rfl); intro Cs cs; (try simp (disch := omega) only [evB, ev, constV, const1, Int.reduceLE, Int.natCast_nonneg, Int.toNat_natCast, Int.reduceToNat, if_true, if_pos, List.getElem?_cons_zero, List.getElem?_cons_succ, Option.bind_some, Option.bind_none]); simp (disch := omega) only [go_sem, q16, q8, q2, q7]; (with_reducible apply cs); clear cs Cs) | ((with_reducible first | apply O_callF | apply O_call); (repeat rfl); (try simp only [za]); (refine TDoes.go (by (first | apply b1 | apply b2 | apply b3 | apply b4 | apply b5 | apply b6) <;> first | assumption | omega | exact Eq.trans (get_old (by assumption)) (by assumption) | (focus (simp (disch := omega) only [go_sem, q16, q8, q2, q7]; (try rfl); done))) ?_; (try simp (disch := omega) only [go_sem, q16, q8, q2, q7])))); (first | (with_reducible exact cw) | ((with_reducible apply cw); (focus ((try simp only [zp]); exact rfl)); clear cw Cw))); (try ((with_reducible apply eq_id); (focus ((try simp only [zp]); exact rfl)))))
                          | ((first | ((with_reducible first | apply WL_if | apply WP_if); (focus rfl)) | ((with_reducible first | apply WL_un | apply WP_un); (focus rfl))); (focus ((try simp only [zp]); exact rfl)))
                          | ((with_reducible first | refine WL_nil (hK _ _ ?_) | refine WP_nil (hK _ _ ?_)); clear hK K)
                          | ((with_reducible apply WP_pick); (focus rfl); (focus rfl); (focus rfl); (focus ((try simp only [zp]); exact rfl)); (focus ((try simp only [zp]); exact rfl)))
                          | ((with_reducible first | refine T_reg_seq fun K hK => ?_ | refine T_reg_end fun K hK => ?_); simp only [zl])
                          | ((with_reducible first | refine T_pure_seq ?_ ?_ (fun K hK => ?_) | refine T_pure_end ?_ ?_ (fun K hK => ?_)); (focus kernel_rfl); (focus kernel_rfl); simp only [zl])
                          | ((with_reducible first | apply T_cond_seq | apply T_cond); (focus rfl))
                          | (intro hg; (first | (simp only [zb] at hg; done) | ((try simp only [zb, eq_self] at hg); (have hh : True := hg); clear hh hg) | ((try simp only [zb] at hg); (try (have hh := hg; simp only [hh]; clear hh)); (try simp only [zg, zq, ne_eq, gt_iff_lt, ge_iff_le] at hg); (try (exfalso; omega)))))
                          | with_reducible first | apply T_seq_assoc | apply T_skip_seq | apply T_ret_seq | apply T_exit_seq | apply T_ret | apply T_skip | apply T_exit | refine T_block_seq fun Kb hKb => ?_ | apply T_block
                          | (simp only [TX.inBlock, TX.then, zi, Nat.reduceEqDiff])
                          | ((with_reducible first | refine hR _ _ (fun C cc => ?_) | refine hN _ _ (fun C cc => ?_)); simp (disch := omega) only [go_sem, q16, q8, q2, q7]; (with_reducible apply cc); clear cc C; (first | refine Ends.more (by first | rfl | simp only [go_sem, Bool.and_self]) ?_ | refine Ends.same (by first | rfl | simp only [go_sem, Bool.and_self]) ?_); (try simp only [go_sem, Bool.and_self]))
                          | (with_reducible apply_assumption -exfalso -symm only [*]))
                        clear b1 b2 b3 b4 b5 b6
                        have J5 : ∀ (τ : TS) (m9 : TL), Fits [none, none, some (some (.ptr σ.length 0)), none, none, none, some (some (.ptr (σ.length + 1) 0)), some (some (.ptr (σ.length + 2) 0)), some (some (.int .i64 N3)), none, none, none, some (some (.int .i64 i)), some (some (.ptr (σ.length + (ρ.length + 3)) 0)), none, none, none, none, none, none, none, none, none, none, none, none, none, none, none, none, none, none, none, none, none, none, none, none, none, none, none, none, none, none, none, none, none, none, none, none, none, none, none, none, none, none, none, none, none, none, none, none, none, none, none, none, none, none, none, none, none, none, none, none, none, none, none, none, none, none, none, none, none, none, none, none, none, none, none, none, none, none, none, none, none, none, none, none, none, none, none, none, none, none, none, none, none, none, none, none, none, none, none, none, none, none, none, none, none, none, none, none, none, none, none, none, none, none, none, none, none, none, none, none, none, none, none, none, none, none, none, none, none, none, none, none, none, none, none, none, none, none, none, none, none, none, none, none, none, none, none, none, none, none, none, none, none, none, none, none, none, none, none, none, none, none, none, none, none, none, none, none, none, none, none, none, none, none, none, none, none, none, none, none, none, none, none, none, none, none, none, none, none, none, none, none, none, none, none, none, none, none, none, none, none, none, none, none, none, none, none, none, none, none, none, none, none, none, none, none, none, none, none, none, none, none, none, none, none, none, none, none, none, none, none, none, none, none, none, none, none, none, none, none, none, none, none, none, none, none, none, none, none, none, none, none, none, none, none, none, none, none, none, none, none, none, none] m9 → (True) → Kb m9 (σ ++ zC :: .cells (rC x'.1 x'.2) :: .cells [.int .i64 v1, rowTV intC (rowOf qa1), .int .i64 v2, rowTV winC (rowOf qa2), lv, .nils] :: (ρ ++ .cells [.int .i64 u1, .int .i64 u2, .int .i64 f16, .int .i64 u4, .bool (f2 == 1), .int .i64 f8, .int .i64 u5, rowTV intC (rowOf to)] :: τ)) := by
                          intro τ m9 hf9 h9
                          obtain ⟨q, rfl⟩ := hf9.fill 0
                          apply hKb
                          show Tw _ _ _ _ ([q 0, q 1, some (.ptr σ.length 0), q 3, q 4, q 5, some (.ptr (σ.length + 1) 0), some (.ptr (σ.length + 2) 0), some (.int .i64 N3), q 9, q 10, q 11, some (.int .i64 i), some (.ptr (σ.length + (ρ.length + 3)) 0), q 14, q 15, q 16, q 17, q 18, q 19, q 20, q 21, q 22, q 23, q 24, q 25, q 26, q 27, q 28, q 29, q 30, q 31, q 32, q 33, q 34, q 35, q 36, q 37, q 38, q 39, q 40, q 41, q 42, q 43, q 44, q 45, q 46, q 47, q 48, q 49, q 50, q 51, q 52, q 53, q 54, q 55, q 56, q 57, q 58, q 59, q 60, q 61, q 62, q 63, q 64, q 65, q 66, q 67, q 68, q 69, q 70, q 71, q 72, q 73, q 74, q 75, q 76, q 77, q 78, q 79, q 80, q 81, q 82, q 83, q 84, q 85, q 86, q 87, q 88, q 89, q 90, q 91, q 92, q 93, q 94, q 95, q 96, q 97, q 98, q 99, q 100, q 101, q 102, q 103, q 104, q 105, q 106, q 107, q 108, q 109, q 110, q 111, q 112, q 113, q 114, q 115, q 116, q 117, q 118, q 119, q 120, q 121, q 122, q 123, q 124, q 125, q 126, q 127, q 128, q 129, q 130, q 131, q 132, q 133, q 134, q 135, q 136, q 137, q 138, q 139, q 140, q 141, q 142, q 143, q 144, q 145, q 146, q 147, q 148, q 149, q 150, q 151, q 152, q 153, q 154, q 155, q 156, q 157, q 158, q 159, q 160, q 161, q 162, q 163, q 164, q 165, q 166, q 167, q 168, q 169, q 170, q 171, q 172, q 173, q 174, q 175, q 176, q 177, q 178, q 179, q 180, q 181, q 182, q 183, q 184, q 185, q 186, q 187, q 188, q 189, q 190, q 191, q 192, q 193, q 194, q 195, q 196, q 197, q 198, q 199, q 200, q 201, q 202, q 203, q 204, q 205, q 206, q 207, q 208, q 209, q 210, q 211, q 212, q 213, q 214, q 215, q 216, q 217, q 218, q 219, q 220, q 221, q 222, q 223, q 224, q 225, q 226, q 227, q 228, q 229, q 230, q 231, q 232, q 233, q 234, q 235, q 236, q 237, q 238, q 239, q 240, q 241, q 242, q 243, q 244, q 245, q 246, q 247, q 248, q 249, q 250, q 251, q 252, q 253, q 254, q 255, q 256, q 257, q 258, q 259, q 260, q 261, q 262, q 263, q 264, q 265, q 266, q 267, q 268, q 269, q 270, q 271, q 272, q 273, q 274, q 275, q 276]) (σ ++ zC :: .cells (rC x'.1 x'.2) :: .cells [.int .i64 v1, rowTV intC (rowOf qa1), .int .i64 v2, rowTV winC (rowOf qa2), lv, .nils] :: (ρ ++ .cells [.int .i64 u1, .int .i64 u2, .int .i64 f16, .int .i64 u4, .bool (f2 == 1), .int .i64 f8, .int .i64 u5, rowTV intC (rowOf to)] :: τ))
                          obtain ⟨lv', ρ', happ, hacc'⟩ := acc_step (π := σ ++ [zC, .cells (rC x'.1 x'.2), .cells [.int .i64 v1, rowTV intC (rowOf qa1), .int .i64 v2, rowTV winC (rowOf qa2), lv, .nils]]) (v := v) app0V app1V (fun _ => rfl) (hacc.more (.cells (linkC v) :: τ)) (by omega) (by simp)
                          have hbs := fun τ => bsV τ v
                          simp only [List.append_assoc, List.cons_append, List.nil_append, ev] at happ hbs
                          have ho1 := hacc'.one
                          have hc1 := hacc'.cells
                          as_aux_lemma =>
                            have FK := zdum; have FD := And.intro @happ (And.intro @hbs (And.intro @ho1 (@hc1))); have FL := zdum
                            refine walk ?_
                            (repeat' first | exact Lv.nil | apply Lv.cons) <;> (intros; clear FL FD FK)
                            refine ⟨(i + 1, k, x', acc ++ [v], lv', ρ'), ?_, ?_, ⟨?_, hk', hx', ?_, hacc'⟩, rfl⟩
                            · dsimp only; omega
                            · dsimp only; exact ⟨rfl, rfl, rfl, rfl, rfl, trivial⟩
                            · dsimp only; omega
                            · simp only [List.length_append, List.length_singleton]; omega
                        clear hKb
                        refine T_each (α := Nat × Nat × RSt × (List Int) × TV × TS) (fun (j, m, y, ac, lu, τ) => [none, none, some (some (.ptr σ.length 0)), none, none, none, some (some (.ptr (σ.length + 1) 0)), some (some (.ptr (σ.length + 2) 0)), some (some (.int .i64 N3)), none, none, none, some (some (.int .i64 i)), some (some (.ptr (σ.length + (ρ.length + 3)) 0)), none, some (some (.int .i64 M)), some (some (.int .i64 j)), none, none, none, none, none, none, none, none, none, none, none, none, none, none, none, none, none, none, none, none, none, none, none, none, none, none, none, none, none, none, none, none, none, none, none, none, none, none, none, none, none, none, none, none, none, none, none, none, none, none, none, none, none, none, none, none, none, none, none, none, none, none, none, none, none, none, none, none, none, none, none, none, none, none, none, none, none, none, none, none, none, none, none, none, none, none, none, none, none, none, none, none, none, none, none, none, none, none, none, none, none, none, none, none, none, none, none, none, none, none, none, none, none, none, none, none, none, none, none, none, none, none, none, none, none, none, none, none, none, none, none, none, none, none, none, none, none, none, none, none, none, none, none, none, none, none, none, none, none, none, none, none, none, none, none, none, none, none, none, none, none, none, none, none, none, none, none, none, none, none, none, none, none, none, none, none, none, none, none, none, none, none, none, none, none, none, none, none, none, none, none, none, none, none, none, none, none, none, none, none, none, none, none, none, none, none, none, none, none, none, none, none, none, none, none, none, none, none, none, none, none, none, none, none, none, none, none, none, none, none, none, none, none, none, none, none, none, none, none, none, none, none, none, none, none, none, none, none, none, none, none, none, none, none, none, none, none, none, none, none]) (fun (j, m, y, ac, lu, τ) => j + m = M ∧ (to, x') = (ac ++ (tkN intR m y).1, (tkN intR m y).2) ∧ y.1.length ≤ 100000 ∧ ac.length = j ∧ Acc (σ.length + (ρ.length + 4)) 1 intC ac lu τ) (fun (j, m, y, ac, lu, τ) => m) (fun (j, m, y, ac, lu, τ) => σ ++ zC :: .cells (rC y.1 y.2) :: .cells [.int .i64 v1, rowTV intC (rowOf qa1), .int .i64 v2, rowTV winC (rowOf qa2), lv, .nils] :: (ρ ++ .cells [.int .i64 u1, .int .i64 u2, .int .i64 f16, .int .i64 u4, .bool (f2 == 1), .int .i64 f8, .int .i64 u5, lu] :: τ)) ?_ ?_
                        · exact ⟨(0, M, x6, [], .nils, []), ⟨rfl, rfl, rfl, rfl, rfl, rfl, rfl, rfl, trivial⟩, ⟨by omega, et, hx6, rfl, Acc.nil⟩, rfl⟩
                        · rintro ⟨j, m, y, ac, lu, τ⟩ q ⟨hjm, hu, hy, hul, hacu⟩
                          show Tw _ _ _ _ ([q 0, q 1, some (.ptr σ.length 0), q 3, q 4, q 5, some (.ptr (σ.length + 1) 0), some (.ptr (σ.length + 2) 0), some (.int .i64 N3), q 9, q 10, q 11, some (.int .i64 i), some (.ptr (σ.length + (ρ.length + 3)) 0), q 14, some (.int .i64 M), some (.int .i64 j), q 17, q 18, q 19, q 20, q 21, q 22, q 23, q 24, q 25, q 26, q 27, q 28, q 29, q 30, q 31, q 32, q 33, q 34, q 35, q 36, q 37, q 38, q 39, q 40, q 41, q 42, q 43, q 44, q 45, q 46, q 47, q 48, q 49, q 50, q 51, q 52, q 53, q 54, q 55, q 56, q 57, q 58, q 59, q 60, q 61, q 62, q 63, q 64, q 65, q 66, q 67, q 68, q 69, q 70, q 71, q 72, q 73, q 74, q 75, q 76, q 77, q 78, q 79, q 80, q 81, q 82, q 83, q 84, q 85, q 86, q 87, q 88, q 89, q 90, q 91, q 92, q 93, q 94, q 95, q 96, q 97, q 98, q 99, q 100, q 101, q 102, q 103, q 104, q 105, q 106, q 107, q 108, q 109, q 110, q 111, q 112, q 113, q 114, q 115, q 116, q 117, q 118, q 119, q 120, q 121, q 122, q 123, q 124, q 125, q 126, q 127, q 128, q 129, q 130, q 131, q 132, q 133, q 134, q 135, q 136, q 137, q 138, q 139, q 140, q 141, q 142, q 143, q 144, q 145, q 146, q 147, q 148, q 149, q 150, q 151, q 152, q 153, q 154, q 155, q 156, q 157, q 158, q 159, q 160, q 161, q 162, q 163, q 164, q 165, q 166, q 167, q 168, q 169, q 170, q 171, q 172, q 173, q 174, q 175, q 176, q 177, q 178, q 179, q 180, q 181, q 182, q 183, q 184, q 185, q 186, q 187, q 188, q 189, q 190, q 191, q 192, q 193, q 194, q 195, q 196, q 197, q 198, q 199, q 200, q 201, q 202, q 203, q 204, q 205, q 206, q 207, q 208, q 209, q 210, q 211, q 212, q 213, q 214, q 215, q 216, q 217, q 218, q 219, q 220, q 221, q 222, q 223, q 224, q 225, q 226, q 227, q 228, q 229, q 230, q 231, q 232, q 233, q 234, q 235, q 236, q 237, q 238, q 239, q 240, q 241, q 242, q 243, q 244, q 245, q 246, q 247, q 248, q 249, q 250, q 251, q 252, q 253, q 254, q 255, q 256, q 257, q 258, q 259, q 260, q 261, q 262, q 263, q 264, q 265, q 266, q 267, q 268, q 269, q 270, q 271, q 272, q 273, q 274, q 275, q 276]) (σ ++ zC :: .cells (rC y.1 y.2) :: .cells [.int .i64 v1, rowTV intC (rowOf qa1), .int .i64 v2, rowTV winC (rowOf qa2), lv, .nils] :: (ρ ++ .cells [.int .i64 u1, .int .i64 u2, .int .i64 f16, .int .i64 u4, .bool (f2 == 1), .int .i64 f8, .int .i64 u5, lu] :: τ))
                          by_cases hgo2 : m = 0 ∨ y.2 ≠ 0
                          · obtain ⟨e1, e2⟩ : to = ac ∧ x' = y := by
                              rcases hgo2 with rfl | he
                              · rw [tkN] at hu; simpa using hu
                              · rw [tkN_err he] at hu; simpa using hu
                            subst e1 e2
                            apply T_seq_assoc
                            refine T_letgo (l := σ.length + (ρ.length + 3)) (cs := [.int .i64 u1, .int .i64 u2, .int .i64 f16, .int .i64 u4, .bool (f2 == 1), .int .i64 f8, .int .i64 u5, lu]) ?_ ?_
                            · rw [get_app]; simp only [List.getElem?_cons_succ, get_app0, List.getElem?_cons_zero]
                            rw [set_app]
                            simp only [List.set_cons_succ, set_app0, List.set_cons_zero, List.map_cons, List.map_nil, hacu.letgo, lg_int, lg_bool, lg_nils, lg_row]
                            rcases hgo2 with rfl | he
                            · as_aux_lemma =>
                                have FK := zdum; have FD := zdum; have FL := zdum
                                refine walk ?_
                                (repeat' first | exact Lv.nil | apply Lv.cons) <;> (intros; clear FL FD FK)
                                all_goals (first | exact ⟨rfl, rfl, rfl, rfl, rfl, rfl, trivial⟩ | trivial)
                            · as_aux_lemma =>
                                have FK := @he; have FD := zdum; have FL := zdum
                                refine walk ?_
                                (repeat' first | exact Lv.nil | apply Lv.cons) <;> (intros; clear FL FD FK)
                                all_goals (first | exact ⟨rfl, rfl, rfl, rfl, rfl, rfl, trivial⟩ | trivial)
                          · obtain ⟨m, rfl⟩ : ∃ k, m = k + 1 := ⟨m - 1, by omega⟩
                            have he : y.2 = 0 := by omega
                            rw [tkN_ok he] at hu
                            obtain ⟨yr, ye⟩ := y
                            dsimp only at he hy
                            subst he
                            obtain ⟨y', ey⟩ : ∃ x', x' = rS 2 (yr, 0) := ⟨_, rfl⟩
                            obtain ⟨g, eg⟩ : ∃ v, v = rV 2 (yr, 0) := ⟨_, rfl⟩
                            have hu' : (to, x') = ((ac ++ [g]) ++ (tkN intR m y').1, (tkN intR m y').2) := by rw [hu, ey, eg]; simp
                            have hy' : y'.1.length ≤ 100000 := by rw [ey]; exact Nat.le_trans (rS_le 2 (yr, 0)) hy
                            have b1 := fun A ρ => num_at (σ := σ) 2 (by omega) rfl hy ey eg A ρ
                            dsimp only at b1
                            obtain ⟨lu', τ', happ, hacu'⟩ := acc_step (π := σ ++ zC :: .cells (rC y'.1 y'.2) :: .cells [.int .i64 v1, rowTV intC (rowOf qa1), .int .i64 v2, rowTV winC (rowOf qa2), lv, .nils] :: (ρ ++ [.cells [.int .i64 u1, .int .i64 u2, .int .i64 f16, .int .i64 u4, .bool (f2 == 1), .int .i64 f8, .int .i64 u5, lu]])) (v := g) app0I app1I (fun _ => rfl) hacu (by omega) (by simp only [List.length_append, List.length_cons, List.length_nil])
                            simp only [List.append_assoc, List.cons_append, List.nil_append] at happ
                            clear ey eg hu J5
                            have ho1 := hacu'.one
                            have hc1 := hacu'.cells
                            as_aux_lemma =>
                              have FK := zdum; have FD := And.intro @happ (And.intro @ho1 (@hc1)); have FL := zdum; have dA := @b1; have eA : Eord 43 [(0, 0), (1, 1), (2, 0), (3, 2), (4, 1), (5, 2), (6, 0), (7, 2)] := ⟨trivial⟩
                              refine walk ?_
                              (repeat' first | exact Lv.nil | apply Lv.cons) <;> (intros; clear eA dA FL FD FK)
                              refine ⟨(j + 1, m, y', ac ++ [g], lu', τ'), ?_, ?_, ⟨?_, hu', hy', ?_, hacu'⟩, rfl⟩
                              · dsimp only; omega
                              · dsimp only; exact ⟨rfl, rfl, rfl, rfl, rfl, rfl, rfl, rfl, trivial⟩
                              · dsimp only; omega
                              · simp only [List.length_append, List.length_singleton]; omega
              clear hKb
              refine T_each (α := Nat × Nat × RSt × (List Win) × TV × TS) (fun (i, k, x, acc, lv, ρ) => [none, none, some (some (.ptr σ.length 0)), none, none, none, some (some (.ptr (σ.length + 1) 0)), some (some (.ptr (σ.length + 2) 0)), some (some (.int .i64 N2)), none, some (some (.int .i64 i)), none, none, none, none, none, none, none, none, none, none, none, none, none, none, none, none, none, none, none, none, none, none, none, none, none, none, none, none, none, none, none, none, none, none, none, none, none, none, none, none, none, none, none, none, none, none, none, none, none, none, none, none, none, none, none, none, none, none, none, none, none, none, none, none, none, none, none, none, none, none, none, none, none, none, none, none, none, none, none, none, none, none, none, none, none, none, none, none, none, none, none, none, none, none, none, none, none, none, none, none, none, none, none, none, none, none, none, none, none, none, none, none, none, none, none, none, none, none, none, none, none, none, none, none, none, none, none, none, none, none, none, none, none, none, none, none, none, none, none, none, none, none, none, none, none, none, none, none, none, none, none, none, none, none, none, none, none, none, none, none, none, none, none, none, none, none, none, none, none, none, none, none, none, none, none, none, none, none, none, none, none, none, none, none, none, none, none, none, none, none, none, none, none, none, none, none, none, none, none, none, none, none, none, none, none, none, none, none, none, none, none, none, none, none, none, none, none, none, none, none, none, none, none, none, none, none, none, none, none, none, none, none, none, none, none, none, none, none, none, none, none, none, none, none, none, none, none, none, none, none, none, none, none, none, none, none, none, none, none, none, none, none, none, none, none, none]) (fun (i, k, x, acc, lv, ρ) => i + k = N2 ∧ (qa2, qx2) = (acc ++ (tkN winR k x).1, (tkN winR k x).2) ∧ x.1.length ≤ 100000 ∧ acc.length = i ∧ Acc (σ.length + 3) 3 winC acc lv ρ) (fun (i, k, x, acc, lv, ρ) => k) (fun (i, k, x, acc, lv, ρ) => σ ++ zC :: .cells (rC x.1 x.2) :: .cells [.int .i64 v1, rowTV intC (rowOf qa1), .int .i64 v2, lv, .nils, .nils] :: ρ) ?_ ?_
              · exact ⟨(0, N2, s4, [], .nils, ρ), ⟨rfl, rfl, rfl, rfl, rfl, trivial⟩, ⟨by omega, eq2, l5, rfl, Acc.nil⟩, rfl⟩
              · rintro ⟨i, k, x, acc, lv, ρ⟩ q ⟨hik, hk, hx, hal, hacc⟩
                show Tw _ _ _ _ ([q 0, q 1, some (.ptr σ.length 0), q 3, q 4, q 5, some (.ptr (σ.length + 1) 0), some (.ptr (σ.length + 2) 0), some (.int .i64 N2), q 9, some (.int .i64 i), q 11, q 12, q 13, q 14, q 15, q 16, q 17, q 18, q 19, q 20, q 21, q 22, q 23, q 24, q 25, q 26, q 27, q 28, q 29, q 30, q 31, q 32, q 33, q 34, q 35, q 36, q 37, q 38, q 39, q 40, q 41, q 42, q 43, q 44, q 45, q 46, q 47, q 48, q 49, q 50, q 51, q 52, q 53, q 54, q 55, q 56, q 57, q 58, q 59, q 60, q 61, q 62, q 63, q 64, q 65, q 66, q 67, q 68, q 69, q 70, q 71, q 72, q 73, q 74, q 75, q 76, q 77, q 78, q 79, q 80, q 81, q 82, q 83, q 84, q 85, q 86, q 87, q 88, q 89, q 90, q 91, q 92, q 93, q 94, q 95, q 96, q 97, q 98, q 99, q 100, q 101, q 102, q 103, q 104, q 105, q 106, q 107, q 108, q 109, q 110, q 111, q 112, q 113, q 114, q 115, q 116, q 117, q 118, q 119, q 120, q 121, q 122, q 123, q 124, q 125, q 126, q 127, q 128, q 129, q 130, q 131, q 132, q 133, q 134, q 135, q 136, q 137, q 138, q 139, q 140, q 141, q 142, q 143, q 144, q 145, q 146, q 147, q 148, q 149, q 150, q 151, q 152, q 153, q 154, q 155, q 156, q 157, q 158, q 159, q 160, q 161, q 162, q 163, q 164, q 165, q 166, q 167, q 168, q 169, q 170, q 171, q 172, q 173, q 174, q 175, q 176, q 177, q 178, q 179, q 180, q 181, q 182, q 183, q 184, q 185, q 186, q 187, q 188, q 189, q 190, q 191, q 192, q 193, q 194, q 195, q 196, q 197, q 198, q 199, q 200, q 201, q 202, q 203, q 204, q 205, q 206, q 207, q 208, q 209, q 210, q 211, q 212, q 213, q 214, q 215, q 216, q 217, q 218, q 219, q 220, q 221, q 222, q 223, q 224, q 225, q 226, q 227, q 228, q 229, q 230, q 231, q 232, q 233, q 234, q 235, q 236, q 237, q 238, q 239, q 240, q 241, q 242, q 243, q 244, q 245, q 246, q 247, q 248, q 249, q 250, q 251, q 252, q 253, q 254, q 255, q 256, q 257, q 258, q 259, q 260, q 261, q 262, q 263, q 264, q 265, q 266, q 267, q 268, q 269, q 270, q 271, q 272, q 273, q 274, q 275, q 276]) (σ ++ zC :: .cells (rC x.1 x.2) :: .cells [.int .i64 v1, rowTV intC (rowOf qa1), .int .i64 v2, lv, .nils, .nils] :: ρ)
                by_cases hgo : k = 0 ∨ x.2 ≠ 0
                · obtain ⟨e1, e2⟩ : qa2 = acc ∧ qx2 = x := by
                    rcases hgo with rfl | he
                    · rw [tkN] at hk; simpa using hk
                    · rw [tkN_err he] at hk; simpa using hk
                  subst e1 e2
                  apply T_seq_assoc
                  refine T_letgo (l := σ.length + 2) (cs := [.int .i64 v1, rowTV intC (rowOf qa1), .int .i64 v2, lv, .nils, .nils]) ?_ ?_
                  · rw [get_app]; rfl
                  rw [set_app]
                  simp only [List.set_cons_succ, List.set_cons_zero, List.map_cons, List.map_nil, hacc.letgo, lg_int, lg_nils, lg_row]
                  rcases hgo with rfl | he
                  · as_aux_lemma =>
                      have FK := zdum; have FD := zdum; have FL := zdum
                      refine walk ?_
                      (repeat' first | exact Lv.nil | apply Lv.cons) <;> (intros; clear FL FD FK)
                      all_goals (first | exact ⟨rfl, rfl, rfl, trivial⟩ | trivial)
                  · as_aux_lemma =>
                      have FK := @he; have FD := zdum; have FL := zdum
                      refine walk ?_
                      (repeat' first | exact Lv.nil | apply Lv.cons) <;> (intros; clear FL FD FK)
                      all_goals (first | exact ⟨rfl, rfl, rfl, trivial⟩ | trivial)
                · obtain ⟨k, rfl⟩ : ∃ m, k = m + 1 := ⟨k - 1, by omega⟩
                  have he : x.2 = 0 := by omega
                  rw [tkN_ok he] at hk
                  obtain ⟨xr, xe⟩ := x
                  dsimp only at he hx
                  subst he
                  obtain ⟨x1, ex1⟩ : ∃ x', x' = rS 2 (xr, 0) := ⟨_, rfl⟩
                  obtain ⟨x2, ex2⟩ : ∃ x', x' = rS 4 x1 := ⟨_, rfl⟩
                  obtain ⟨x', ex⟩ : ∃ x', x' = rS 4 x2 := ⟨_, rfl⟩
                  obtain ⟨u1, eu1⟩ : ∃ v, v = rV 2 (xr, 0) := ⟨_, rfl⟩
                  obtain ⟨u2, eu2⟩ : ∃ v, v = rV 4 x1 := ⟨_, rfl⟩
                  obtain ⟨u3, eu3⟩ : ∃ v, v = rV 4 x2 := ⟨_, rfl⟩
                  obtain ⟨v, ev⟩ : ∃ v : Win, v = ⟨u1, u2, u3⟩ := ⟨_, rfl⟩
                  have hk' : (qa2, qx2) = ((acc ++ [v]) ++ (tkN winR k x').1, (tkN winR k x').2) := by
                    have : winR (xr, 0) = (v, x') := by rw [winR, ev, eu1, eu2, eu3, ex, ex2, ex1]
                    rw [hk, this]; simp
                  have hx1 : x1.1.length ≤ 100000 := by rw [ex1]; exact Nat.le_trans (rS_le 2 (xr, 0)) hx
                  have hx2 : x2.1.length ≤ 100000 := by rw [ex2]; exact Nat.le_trans (rS_le 4 x1) hx1
                  have hx' : x'.1.length ≤ 100000 := by rw [ex]; exact Nat.le_trans (rS_le 4 x2) hx2
                  have b1 := fun A ρ => num_at (σ := σ) 2 (by omega) rfl hx ex1 eu1 A ρ
                  have b2 := fun A ρ => num_at (σ := σ) 4 (by omega) rfl hx1 ex2 eu2 A ρ
                  have b3 := fun A ρ => num_at (σ := σ) 4 (by omega) rfl hx2 ex eu3 A ρ
                  dsimp only at b1
                  obtain ⟨lv', ρ', happ, hacc'⟩ := acc_step (π := σ ++ [zC, .cells (rC x'.1 x'.2), .cells [.int .i64 v1, rowTV intC (rowOf qa1), .int .i64 v2, lv, .nils, .nils]]) (v := v) app0W app1W (fun _ => rfl) (hacc.more [.cells (winC v)]) (by omega) (by simp)
                  have hbs := fun τ => bsW τ v
                  simp only [List.append_assoc, List.cons_append, List.nil_append, ev] at happ hbs
                  have ho1 := hacc'.one
                  have hc1 := hacc'.cells
                  clear ex ex1 ex2 eu1 eu2 eu3 hk
                  as_aux_lemma =>
                    have FK := zdum; have FD := And.intro @happ (And.intro @hbs (And.intro @ho1 (@hc1))); have FL := zdum; have dA := @b1; have dB := @b2; have dC := @b3
                    refine walk ?_
                    (repeat' first | exact Lv.nil | apply Lv.cons) <;> (intros; clear dC dB dA FL FD FK)
                    refine ⟨(i + 1, k, x', acc ++ [v], lv', ρ'), ?_, ?_, ⟨?_, hk', hx', ?_, hacc'⟩, rfl⟩
                    · dsimp only; omega
                    · dsimp only; exact ⟨rfl, rfl, rfl, rfl, rfl, trivial⟩
                    · dsimp only; omega
                    · simp only [List.length_append, List.length_singleton]; omega
          clear hKb
          refine T_each (α := Nat × Nat × RSt × (List Int) × TV × TS) (fun (i, k, x, acc, lv, ρ) => [none, none, some (some (.ptr σ.length 0)), none, none, none, some (some (.ptr (σ.length + 1) 0)), some (some (.ptr (σ.length + 2) 0)), some (some (.int .i64 N1)), some (some (.int .i64 i)), none, none, none, none, none, none, none, none, none, none, none, none, none, none, none, none, none, none, none, none, none, none, none, none, none, none, none, none, none, none, none, none, none, none, none, none, none, none, none, none, none, none, none, none, none, none, none, none, none, none, none, none, none, none, none, none, none, none, none, none, none, none, none, none, none, none, none, none, none, none, none, none, none, none, none, none, none, none, none, none, none, none, none, none, none, none, none, none, none, none, none, none, none, none, none, none, none, none, none, none, none, none, none, none, none, none, none, none, none, none, none, none, none, none, none, none, none, none, none, none, none, none, none, none, none, none, none, none, none, none, none, none, none, none, none, none, none, none, none, none, none, none, none, none, none, none, none, none, none, none, none, none, none, none, none, none, none, none, none, none, none, none, none, none, none, none, none, none, none, none, none, none, none, none, none, none, none, none, none, none, none, none, none, none, none, none, none, none, none, none, none, none, none, none, none, none, none, none, none, none, none, none, none, none, none, none, none, none, none, none, none, none, none, none, none, none, none, none, none, none, none, none, none, none, none, none, none, none, none, none, none, none, none, none, none, none, none, none, none, none, none, none, none, none, none, none, none, none, none, none, none, none, none, none, none, none, none, none, none, none, none, none, none, none, none, none, none]) (fun (i, k, x, acc, lv, ρ) => i + k = N1 ∧ (qa1, qx1) = (acc ++ (tkN intR k x).1, (tkN intR k x).2) ∧ x.1.length ≤ 100000 ∧ acc.length = i ∧ Acc (σ.length + 3) 1 intC acc lv ρ) (fun (i, k, x, acc, lv, ρ) => k) (fun (i, k, x, acc, lv, ρ) => σ ++ zC :: .cells (rC x.1 x.2) :: .cells [.int .i64 v1, lv, .int .i64 0, .nils, .nils, .nils] :: ρ) ?_ ?_
          · exact ⟨(0, N1, s2, [], .nils, []), ⟨rfl, rfl, rfl, rfl, rfl, trivial⟩, ⟨by omega, eq1, l2, rfl, Acc.nil⟩, rfl⟩
          · rintro ⟨i, k, x, acc, lv, ρ⟩ q ⟨hik, hk, hx, hal, hacc⟩
            show Tw _ _ _ _ ([q 0, q 1, some (.ptr σ.length 0), q 3, q 4, q 5, some (.ptr (σ.length + 1) 0), some (.ptr (σ.length + 2) 0), some (.int .i64 N1), some (.int .i64 i), q 10, q 11, q 12, q 13, q 14, q 15, q 16, q 17, q 18, q 19, q 20, q 21, q 22, q 23, q 24, q 25, q 26, q 27, q 28, q 29, q 30, q 31, q 32, q 33, q 34, q 35, q 36, q 37, q 38, q 39, q 40, q 41, q 42, q 43, q 44, q 45, q 46, q 47, q 48, q 49, q 50, q 51, q 52, q 53, q 54, q 55, q 56, q 57, q 58, q 59, q 60, q 61, q 62, q 63, q 64, q 65, q 66, q 67, q 68, q 69, q 70, q 71, q 72, q 73, q 74, q 75, q 76, q 77, q 78, q 79, q 80, q 81, q 82, q 83, q 84, q 85, q 86, q 87, q 88, q 89, q 90, q 91, q 92, q 93, q 94, q 95, q 96, q 97, q 98, q 99, q 100, q 101, q 102, q 103, q 104, q 105, q 106, q 107, q 108, q 109, q 110, q 111, q 112, q 113, q 114, q 115, q 116, q 117, q 118, q 119, q 120, q 121, q 122, q 123, q 124, q 125, q 126, q 127, q 128, q 129, q 130, q 131, q 132, q 133, q 134, q 135, q 136, q 137, q 138, q 139, q 140, q 141, q 142, q 143, q 144, q 145, q 146, q 147, q 148, q 149, q 150, q 151, q 152, q 153, q 154, q 155, q 156, q 157, q 158, q 159, q 160, q 161, q 162, q 163, q 164, q 165, q 166, q 167, q 168, q 169, q 170, q 171, q 172, q 173, q 174, q 175, q 176, q 177, q 178, q 179, q 180, q 181, q 182, q 183, q 184, q 185, q 186, q 187, q 188, q 189, q 190, q 191, q 192, q 193, q 194, q 195, q 196, q 197, q 198, q 199, q 200, q 201, q 202, q 203, q 204, q 205, q 206, q 207, q 208, q 209, q 210, q 211, q 212, q 213, q 214, q 215, q 216, q 217, q 218, q 219, q 220, q 221, q 222, q 223, q 224, q 225, q 226, q 227, q 228, q 229, q 230, q 231, q 232, q 233, q 234, q 235, q 236, q 237, q 238, q 239, q 240, q 241, q 242, q 243, q 244, q 245, q 246, q 247, q 248, q 249, q 250, q 251, q 252, q 253, q 254, q 255, q 256, q 257, q 258, q 259, q 260, q 261, q 262, q 263, q 264, q 265, q 266, q 267, q 268, q 269, q 270, q 271, q 272, q 273, q 274, q 275, q 276]) (σ ++ zC :: .cells (rC x.1 x.2) :: .cells [.int .i64 v1, lv, .int .i64 0, .nils, .nils, .nils] :: ρ)
            by_cases hgo : k = 0 ∨ x.2 ≠ 0
            · obtain ⟨e1, e2⟩ : qa1 = acc ∧ qx1 = x := by
                rcases hgo with rfl | he
                · rw [tkN] at hk; simpa using hk
                · rw [tkN_err he] at hk; simpa using hk
              subst e1 e2
              apply T_seq_assoc
              refine T_letgo (l := σ.length + 2) (cs := [.int .i64 v1, lv, .int .i64 0, .nils, .nils, .nils]) ?_ ?_
              · rw [get_app]; rfl
              rw [set_app]
              simp only [List.set_cons_succ, List.set_cons_zero, List.map_cons, List.map_nil, hacc.letgo, lg_int, lg_nils, lg_row]
              rcases hgo with rfl | he
              · as_aux_lemma =>
                  have FK := zdum; have FD := zdum; have FL := zdum
                  refine walk ?_
                  (repeat' first | exact Lv.nil | apply Lv.cons) <;> (intros; clear FL FD FK)
                  all_goals (first | exact ⟨rfl, rfl, rfl, trivial⟩ | trivial)
              · as_aux_lemma =>
                  have FK := @he; have FD := zdum; have FL := zdum
                  refine walk ?_
                  (repeat' first | exact Lv.nil | apply Lv.cons) <;> (intros; clear FL FD FK)
                  all_goals (first | exact ⟨rfl, rfl, rfl, trivial⟩ | trivial)
            · obtain ⟨k, rfl⟩ : ∃ m, k = m + 1 := ⟨k - 1, by omega⟩
              have he : x.2 = 0 := by omega
              rw [tkN_ok he] at hk
              obtain ⟨xr, xe⟩ := x
              dsimp only at he hx
              subst he
              obtain ⟨x', ex⟩ : ∃ x', x' = rS 2 (xr, 0) := ⟨_, rfl⟩
              obtain ⟨v, ev⟩ : ∃ v, v = rV 2 (xr, 0) := ⟨_, rfl⟩
              have hk' : (qa1, qx1) = ((acc ++ [v]) ++ (tkN intR k x').1, (tkN intR k x').2) := by rw [hk, ex, ev]; simp
              have hx' : x'.1.length ≤ 100000 := by rw [ex]; exact Nat.le_trans (rS_le 2 (xr, 0)) hx
              have b1 := fun A ρ => num_at (σ := σ) 2 (by omega) rfl hx ex ev A ρ
              dsimp only at b1
              obtain ⟨lv', ρ', happ, hacc'⟩ := acc_step (π := σ ++ [zC, .cells (rC x'.1 x'.2), .cells [.int .i64 v1, lv, .int .i64 0, .nils, .nils, .nils]]) (v := v) app0I app1I (fun _ => rfl) hacc (by omega) (by simp)
              simp only [List.append_assoc, List.cons_append, List.nil_append] at happ
              clear ex ev hk
              have ho1 := hacc'.one
              have hc1 := hacc'.cells
              as_aux_lemma =>
                have FK := zdum; have FD := And.intro @happ (And.intro @ho1 (@hc1)); have FL := zdum; have dA := @b1; have eA : Eord 15 [(0, 0), (1, 1), (2, 0), (3, 2), (4, 1), (5, 2), (6, 0), (7, 2)] := ⟨trivial⟩
                refine walk ?_
                (repeat' first | exact Lv.nil | apply Lv.cons) <;> (intros; clear eA dA FL FD FK)
                refine ⟨(i + 1, k, x', acc ++ [v], lv', ρ'), ?_, ?_, ⟨?_, hk', hx', ?_, hacc'⟩, rfl⟩
                · dsimp only; omega
                · dsimp only; exact ⟨rfl, rfl, rfl, rfl, rfl, trivial⟩
                · dsimp only; omega
                · simp only [List.length_append, List.length_singleton]; omega
      · rw [if_pos hm]
        refine pure_of [65, 97, 157, 163, 248] [.cell 2 27, .tmp 3] Try.func55 (by kernel_rfl) rfl (by kernel_rfl) fun X hR hN => ?_
        show Tw _ _ _ _ ([some _] ++ List.replicate 276 none) _
        simp only [List.replicate, List.cons_append, List.nil_append]
        as_aux_lemma =>
          have FK := zdum; have FD := zdum; have FL := @be_len; have cA := @ho
          refine walk ?_
          (repeat' first | exact Lv.nil | apply Lv.cons) <;> (intros; clear cA FL FD FK)
          all_goals (first | rfl | (exfalso; apply hm; assumption))
  · have e1 : loadL s = (noC, (openL s).2) := by rw [loadL, if_pos hb]
    rw [e1]
    refine pure_of [65, 97, 157, 163, 248] [.cell 2 27, .tmp 3] Try.func55 (by kernel_rfl) rfl (by kernel_rfl) fun X hR hN => ?_
    show Tw _ _ _ _ ([some _] ++ List.replicate 276 none) _
    simp only [List.replicate, List.cons_append, List.nil_append]
    as_aux_lemma =>
      have FK := @hb; have FD := zdum; have FL := zdum; have cA := @ho
      refine walk ?_
      (repeat' first | exact Lv.nil | apply Lv.cons) <;> (intros; clear cA FL FD FK)
      all_goals rfl
end Go.Proofs.Ytgkcackpffimmaa
