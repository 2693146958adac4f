/- The image's loader: what it reads, number by number. -/
import Derived.Test.YtgkcackpffimmaaI1
import Derived.Test.YtgkcackpffimmaaH2
import Derived.Test.YtgkcackpffimmaaD0
set_option linter.unusedVariables false
set_option linter.unusedSimpArgs false
set_option maxRecDepth 10000
set_option maxHeartbeats 4000000
namespace Go.Proofs.Ytgkcackpffimmaa
open Go.TM

/- a growing row of numbers -/
theorem appI0 {σ : TS} {x : Int} : tappend (mkTab Try.prog) true σ 22 22 .nils (.sl none 1 [.int .i64 x]) = some (.sl (some (σ.length, 1)) 1 [.int .i64 x], σ ++ [.right 1 1]) :=
  app_nil tab22 rfl tab3 rfl rfl (src_sl (σ := σ) (own := none) (cs := [.int .i64 x]) (n := 1) (sz := 1) tab22 rfl rfl) rfl rfl (by decide) (by decide) (by decide)
theorem appI1 {w : Bool} {σ : TS} {tk n : Nat} {cs : List TV} {x : Int} (hr : σ[tk]? = some (.right n 1)) (hn : n = cs.length) (hb : n ≤ 1000000) :
    tappend (mkTab Try.prog) w σ 22 22 (.sl (some (tk, n)) n cs) (.sl none 1 [.int .i64 x]) = some (.sl (some (tk, n + 1)) (n + 1) (cs ++ [.int .i64 x]), σ.set tk (.right (n + 1) 1)) :=
  app_own (w := w) tab22 rfl tab3 rfl rfl (src_sl (σ := σ) (own := none) (cs := [.int .i64 x]) (n := 1) (sz := 1) tab22 rfl rfl) rfl rfl hr (by rw [hn]; exact (Nat.mul_one _).symm) (by show (n + 1) * 8 ≤ _; omega) (by omega)

theorem ru32_walk {σ : TS} {l : Nat} {r : List UInt8} {e : Int} (hl : σ[l]? = some (.cells (rC r e))) (hr : r.length ≤ 9223372036854775807) :
    TDoes Try.prog 165 [.ptr l 0] σ (.int .i64 (un (rT 4 r e).1)) (σ.set l (.cells (rC (rT 4 r e).2.1 (rT 4 r e).2.2))) := by
  have hs := rT_len 4 r e
  have h0 := un_nonneg (rT 4 r e).1
  have h1 := un_u32 (rT 4 r e).1 (by omega)
  have hn := number_walk (k := 4) (by omega) (by omega) (rtext_walk hl 4 hr) rfl
  refine calls_of [] [.tmp 2] Try.func165 (by kernel_rfl) rfl (by kernel_rfl) fun X hR hN => ?_
  show Tw _ _ _ _ ([some _] ++ List.replicate 5 none) _
  simp only [List.replicate, List.cons_append, List.nil_append]
  have FK := zdum; have FD := zdum; have FL := zdum; have dA := @hn
  refine walk ?_
  (repeat' first | exact Lv.nil | apply Lv.cons) <;> (intros; clear dA FL FD FK)
  all_goals (first | exact ⟨rfl, rfl⟩ | exact ⟨rfl, trivial⟩ | exact ⟨trivial, rfl⟩ | trivial)
theorem rest_walk {σ : TS} {l : Nat} {r : List UInt8} {e : Int} (hl : σ[l]? = some (.cells (rC r e))) (hr : r.length ≤ 9223372036854775807) :
    TDoes Try.prog 187 [.ptr l 0] σ (.str (B (rT r.length r e).1)) (σ.set l (.cells (rC (rT r.length r e).2.1 (rT r.length r e).2.2))) := by
  have h1 := left_walk hl
  have h2 := rtext_walk hl r.length hr
  refine calls_of [] [.tmp 2] Try.func187 (by kernel_rfl) rfl (by kernel_rfl) fun X hR hN => ?_
  show Tw _ _ _ _ ([some _] ++ List.replicate 6 none) _
  simp only [List.replicate, List.cons_append, List.nil_append]
  have FK := zdum; have FD := zdum; have FL := zdum; have cA := @h1; have dA := @h2
  refine walk ?_
  (repeat' first | exact Lv.nil | apply Lv.cons) <;> (intros; clear dA cA FL FD FK)
  all_goals (first | exact ⟨rfl, rfl⟩ | exact ⟨rfl, trivial⟩ | exact ⟨trivial, rfl⟩ | trivial)

theorem iand_mask {n : Int} (k : Nat) (h0 : 0 ≤ n) (h1 : n < 18446744073709551616) (hk : k ≤ 63) : iand .u64 n ((2 ^ k - 1 : Nat) : Int) = n % ((2 ^ k : Nat) : Int) := by
  obtain ⟨m, rfl⟩ : ∃ m : Nat, n = m := ⟨n.toNat, by omega⟩
  have h2 : 2 ^ k < 2 ^ 64 := Nat.pow_lt_pow_right (by decide) (by omega)
  have h3 : 0 < 2 ^ k := Nat.two_pow_pos k
  have h4 : m % 2 ^ k < 2 ^ k := Nat.mod_lt _ h3
  unfold iand
  rw [show IntKind.bits .u64 = 64 from rfl, BitVec.ofInt_natCast, BitVec.ofInt_natCast, BitVec.toNat_and, BitVec.toNat_ofNat, BitVec.toNat_ofNat, Nat.mod_eq_of_lt (show m < 2 ^ 64 by omega), Nat.mod_eq_of_lt (show 2 ^ k - 1 < 2 ^ 64 by omega), Nat.and_two_pow_sub_one_eq_mod]
  rw [wrapU64_of (by omega) (by omega)]
  push_cast
  rfl

/-- What the bits of a byte are, of so many each; none are where nothing is read. -/
def threeR (a b : Int) (r : List UInt8) (e : Int) : TV := if (rT 1 r e).2.2 ≠ 0 then .nils else three (un (rT 1 r e).1 / a) (un (rT 1 r e).1 / b % 2) (un (rT 1 r e).1 % b)
theorem rbits413 {σ : TS} {l : Nat} {r : List UInt8} {e : Int} (hl : σ[l]? = some (.cells (rC r e))) (hr : r.length ≤ 9223372036854775807) :
    TDoes Try.prog 193 [.ptr l 0, three 4 1 3] σ (threeR 16 8 r e) (σ.set l (.cells (rC (rT 1 r e).2.1 (rT 1 r e).2.2))) := by
  have hL := lt_of_get hl
  have herr := err_walk hl
  by_cases he : e = 0
  · have hn := number_walk (k := 1) (by omega) (by have := rT_len 1 r e; omega) (rtext_walk hl 1 hr) rfl
    unfold threeR
    by_cases hx : (rT 1 r e).2.2 = 0
    · rw [if_neg (by omega)]
      have h0 := un_nonneg (rT 1 r e).1
      have h1 : un (rT 1 r e).1 < 256 := by
        have h2 := un_lt (rT 1 r e).1
        have h3 := rT_len 1 r e
        have h4 : (rT 1 r e).1.length = 0 ∨ (rT 1 r e).1.length = 1 := by omega
        rcases h4 with h4 | h4 <;> rw [h4] at h2 <;> simp at h2 <;> omega
      generalize (rT 1 r e).1 = s at *
      generalize (rT 1 r e).2.1 = r' at *
      generalize (rT 1 r e).2.2 = e' at *
      generalize un s = n at *
      subst hx
      have s4 : ishr .u64 n 4 = n / 16 := ishr_nat .u64 n 4 (by decide)
      have s3 : ishr .u64 n 3 = n / 8 := ishr_nat .u64 n 3 (by decide)
      have s0 : ishr .u64 n 0 = n := by have := ishr_nat .u64 n 0 (by decide); simpa using this
      have t4 : ishl .u64 1 4 = 16 := by decide
      have t1 : ishl .u64 1 1 = 2 := by decide
      have t3 : ishl .u64 1 3 = 8 := by decide
      have a4 : iand .u64 (n / 16) 15 = n / 16 := by have := iand_mask (n := n / 16) 4 (by omega) (by omega) (by omega); rw [show ((2 ^ 4 - 1 : Nat) : Int) = 15 from rfl] at this; rw [this]; show n / 16 % 16 = _; omega
      have a1 : iand .u64 (n / 8) 1 = n / 8 % 2 := iand_mask (n := n / 8) 1 (by omega) (by omega) (by omega)
      have a3 : iand .u64 n 7 = n % 8 := iand_mask (n := n) 3 (by omega) (by omega) (by omega)
      refine does_of [50] [.tmp 4] Try.func193 (by kernel_rfl) rfl (by kernel_rfl) fun X hR hN => ?_
      show Tw _ _ _ _ ([some _, some _] ++ List.replicate 51 none) _
      simp only [List.replicate, List.cons_append, List.nil_append]
      have FK := @hl; have FD := zdum; have FL := zdum; have cA := @herr; have cB := @sum413; have dA := @hn
      refine walk ?_
      (repeat' first | exact Lv.nil | apply Lv.cons) <;> (intros; clear dA cB cA FL FD FK)
      refine T_open 3 ?_
      have FK := And.intro @wrapU64_of (And.intro @s4 (And.intro @t4 (@a4))); have FD := @appI0; have FL := zdum
      refine walk ?_
      (repeat' first | exact Lv.nil | apply Lv.cons) <;> (intros; clear FL FD FK)
      refine T_next ?_
      have FK := And.intro @wrapU64_of (And.intro @s3 (And.intro @t1 (@a1))); have FD := @appI1; have FL := zdum
      refine walk ?_
      (repeat' first | exact Lv.nil | apply Lv.cons) <;> (intros; clear FL FD FK)
      refine T_next ?_
      have FK := And.intro @wrapU64_of (And.intro @s0 (And.intro @t3 (@a3))); have FD := @appI1; have FL := zdum
      refine walk ?_
      (repeat' first | exact Lv.nil | apply Lv.cons) <;> (intros; clear FL FD FK)
      refine T_next ?_
      have FK := zdum; have FD := zdum; have FL := zdum
      refine walk ?_
      (repeat' first | exact Lv.nil | apply Lv.cons) <;> (intros; clear FL FD FK)
      all_goals trace_state
    · rw [if_pos hx]
      refine does_of [50] [.tmp 4] Try.func193 (by kernel_rfl) rfl (by kernel_rfl) fun X hR hN => ?_
      show Tw _ _ _ _ ([some _, some _] ++ List.replicate 51 none) _
      simp only [List.replicate, List.cons_append, List.nil_append]
      have FK := And.intro @hl (@hx); have FD := zdum; have FL := zdum; have cA := @herr; have cB := @sum413; have dA := @hn
      refine walk ?_
      (repeat' first | exact Lv.nil | apply Lv.cons) <;> (intros; clear dA cB cA FL FD FK)
  · unfold threeR
    rw [rT_err he]
    simp only
    rw [if_pos he, set_same hl]
    refine does_of [50] [.tmp 4] Try.func193 (by kernel_rfl) rfl (by kernel_rfl) fun X hR hN => ?_
    show Tw _ _ _ _ ([some _, some _] ++ List.replicate 51 none) _
    simp only [List.replicate, List.cons_append, List.nil_append]
    have FK := @he; have FD := zdum; have FL := zdum; have cA := @herr
    refine walk ?_
    (repeat' first | exact Lv.nil | apply Lv.cons) <;> (intros; clear cA FL FD FK)
theorem rbits215 {σ : TS} {l : Nat} {r : List UInt8} {e : Int} (hl : σ[l]? = some (.cells (rC r e))) (hr : r.length ≤ 9223372036854775807) :
    TDoes Try.prog 193 [.ptr l 0, three 2 1 5] σ (threeR 64 32 r e) (σ.set l (.cells (rC (rT 1 r e).2.1 (rT 1 r e).2.2))) := by
  have hL := lt_of_get hl
  have herr := err_walk hl
  by_cases he : e = 0
  · have hn := number_walk (k := 1) (by omega) (by have := rT_len 1 r e; omega) (rtext_walk hl 1 hr) rfl
    unfold threeR
    by_cases hx : (rT 1 r e).2.2 = 0
    · rw [if_neg (by omega)]
      have h0 := un_nonneg (rT 1 r e).1
      have h1 : un (rT 1 r e).1 < 256 := by
        have h2 := un_lt (rT 1 r e).1
        have h3 := rT_len 1 r e
        have h4 : (rT 1 r e).1.length = 0 ∨ (rT 1 r e).1.length = 1 := by omega
        rcases h4 with h4 | h4 <;> rw [h4] at h2 <;> simp at h2 <;> omega
      generalize (rT 1 r e).1 = s at *
      generalize (rT 1 r e).2.1 = r' at *
      generalize (rT 1 r e).2.2 = e' at *
      generalize un s = n at *
      subst hx
      have s4 : ishr .u64 n 6 = n / 64 := ishr_nat .u64 n 6 (by decide)
      have s3 : ishr .u64 n 5 = n / 32 := ishr_nat .u64 n 5 (by decide)
      have s0 : ishr .u64 n 0 = n := by have := ishr_nat .u64 n 0 (by decide); simpa using this
      have t4 : ishl .u64 1 2 = 4 := by decide
      have t1 : ishl .u64 1 1 = 2 := by decide
      have t3 : ishl .u64 1 5 = 32 := by decide
      have a4 : iand .u64 (n / 64) 3 = n / 64 := by have := iand_mask (n := n / 64) 2 (by omega) (by omega) (by omega); rw [show ((2 ^ 2 - 1 : Nat) : Int) = 3 from rfl] at this; rw [this]; show n / 64 % 4 = _; omega
      have a1 : iand .u64 (n / 32) 1 = n / 32 % 2 := iand_mask (n := n / 32) 1 (by omega) (by omega) (by omega)
      have a3 : iand .u64 n 31 = n % 32 := iand_mask (n := n) 5 (by omega) (by omega) (by omega)
      refine does_of [50] [.tmp 4] Try.func193 (by kernel_rfl) rfl (by kernel_rfl) fun X hR hN => ?_
      show Tw _ _ _ _ ([some _, some _] ++ List.replicate 51 none) _
      simp only [List.replicate, List.cons_append, List.nil_append]
      have FK := @hl; have FD := zdum; have FL := zdum; have cA := @herr; have cB := @sum215; have dA := @hn
      refine walk ?_
      (repeat' first | exact Lv.nil | apply Lv.cons) <;> (intros; clear dA cB cA FL FD FK)
      refine T_open 3 ?_
      have FK := And.intro @wrapU64_of (And.intro @s4 (And.intro @t4 (@a4))); have FD := @appI0; have FL := zdum
      refine walk ?_
      (repeat' first | exact Lv.nil | apply Lv.cons) <;> (intros; clear FL FD FK)
      refine T_next ?_
      have FK := And.intro @wrapU64_of (And.intro @s3 (And.intro @t1 (@a1))); have FD := @appI1; have FL := zdum
      refine walk ?_
      (repeat' first | exact Lv.nil | apply Lv.cons) <;> (intros; clear FL FD FK)
      refine T_next ?_
      have FK := And.intro @wrapU64_of (And.intro @s0 (And.intro @t3 (@a3))); have FD := @appI1; have FL := zdum
      refine walk ?_
      (repeat' first | exact Lv.nil | apply Lv.cons) <;> (intros; clear FL FD FK)
      refine T_next ?_
      have FK := zdum; have FD := zdum; have FL := zdum
      refine walk ?_
      (repeat' first | exact Lv.nil | apply Lv.cons) <;> (intros; clear FL FD FK)
      all_goals trace_state
    · rw [if_pos hx]
      refine does_of [50] [.tmp 4] Try.func193 (by kernel_rfl) rfl (by kernel_rfl) fun X hR hN => ?_
      show Tw _ _ _ _ ([some _, some _] ++ List.replicate 51 none) _
      simp only [List.replicate, List.cons_append, List.nil_append]
      have FK := And.intro @hl (@hx); have FD := zdum; have FL := zdum; have cA := @herr; have cB := @sum215; have dA := @hn
      refine walk ?_
      (repeat' first | exact Lv.nil | apply Lv.cons) <;> (intros; clear dA cB cA FL FD FK)
  · unfold threeR
    rw [rT_err he]
    simp only
    rw [if_pos he, set_same hl]
    refine does_of [50] [.tmp 4] Try.func193 (by kernel_rfl) rfl (by kernel_rfl) fun X hR hN => ?_
    show Tw _ _ _ _ ([some _, some _] ++ List.replicate 51 none) _
    simp only [List.replicate, List.cons_append, List.nil_append]
    have FK := @he; have FD := zdum; have FL := zdum; have cA := @herr
    refine walk ?_
    (repeat' first | exact Lv.nil | apply Lv.cons) <;> (intros; clear cA FL FD FK)
end Go.Proofs.Ytgkcackpffimmaa
