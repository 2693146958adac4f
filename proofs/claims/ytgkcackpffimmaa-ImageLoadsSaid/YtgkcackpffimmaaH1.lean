/- What the writer of bytes computes. -/
import Derived.Test.YtgkcackpffimmaaD2
set_option linter.unusedVariables false
set_option linter.unusedSimpArgs false
set_option maxRecDepth 10000
set_option maxHeartbeats 2000000
namespace Go.Proofs.Ytgkcackpffimmaa
open Go.TM

theorem ishr_nat (k : IntKind) (n : Int) (w : Nat) (h : w ≤ k.bits) : ishr k n w = n / 2 ^ w := by
  unfold ishr
  rw [Int.toNat_natCast, Nat.min_eq_left h, Int.fdiv_eq_ediv_of_nonneg _ (by exact Int.le_of_lt (Int.pow_pos (by decide)))]
theorem ishr_u32_0 (n : Int) : ishr .u32 n 0 = n := by rw [show (0 : Int) = ((0 : Nat) : Int) from rfl, ishr_nat _ _ _ (by decide)]; simp
theorem ishr_u32_8 (n : Int) : ishr .u32 n 8 = n / 256 := by rw [show (8 : Int) = ((8 : Nat) : Int) from rfl, ishr_nat _ _ _ (by decide)]; rfl
theorem ishr_u32_16 (n : Int) : ishr .u32 n 16 = n / 256 / 256 := by rw [show (16 : Int) = ((16 : Nat) : Int) from rfl, ishr_nat _ _ _ (by decide)]; omega
theorem ishr_u32_24 (n : Int) : ishr .u32 n 24 = n / 256 / 256 / 256 := by rw [show (24 : Int) = ((24 : Nat) : Int) from rfl, ishr_nat _ _ _ (by decide)]; omega
theorem ishr_i64_8 (n : Int) : ishr .i64 n 8 = n / 256 := by rw [show (8 : Int) = ((8 : Nat) : Int) from rfl, ishr_nat _ _ _ (by decide)]; rfl

abbrev Fits8 (n : Int) (w : Nat) : Prop := 0 ≤ n ∧ n < 2 ^ w
theorem fits_walk (n : Int) (w : Nat) (σ : TS) (hw : w ≤ 63) (h1 : -9223372036854775808 ≤ n) (h2 : n ≤ 9223372036854775807) : TPure Try.prog 149 [.int .i64 n, .int .i64 w] σ (.bool (decide (Fits8 n w))) := by
  have hs : ∀ m : Int, ishr .u64 m w = m / 2 ^ w := fun m => ishr_nat _ _ _ (by show w ≤ 64; omega)
  refine pure_of [] [.tmp 4] Try.func149 (by kernel_rfl) rfl (by kernel_rfl) fun X hR hN => ?_
  show Tw _ _ _ _ ([some _, some _] ++ List.replicate 13 none) _
  simp only [List.replicate, List.cons_append, List.nil_append]
  have FK := And.intro @wrapU64_of (@hs); have FD := zdum; have FL := zdum
  refine walk ?_
  (repeat' first | exact Lv.nil | apply Lv.cons) <;> (intros; clear FL FD FK)
  · congr 1
    rw [Bool.eq_iff_iff, decide_eq_true_eq, beq_iff_eq]
    have hp : (0 : Int) < 2 ^ w := Int.pow_pos (by decide)
    constructor
    · intro h
      refine ⟨by assumption, ?_⟩
      have := Int.lt_mul_of_ediv_lt hp (show n / 2 ^ w < 1 by omega)
      omega
    · rintro ⟨h3, h4⟩
      exact Int.ediv_eq_zero_of_lt h3 h4
  · rw [decide_eq_false]
    rintro ⟨h3, _⟩
    omega

/-- A writer that has begun. -/
abbrev wC (t : Nat) (bs : List UInt8) (bad : Bool) : List TV := [.sl (some (t, bs.length)) bs.length (bvL bs), .bool bad]
abbrev wSet (σ : TS) (l t : Nat) (bs : List UInt8) (bad : Bool) : TS := (σ.set t (.right bs.length 1)).set l (.cells (wC t bs bad))

@[go_sem ↓] theorem appB {w : Bool} {σ : TS} {tk n : Nat} {cs l : List UInt8} (hr : σ[tk]? = some (.right n 1)) (hn : n = cs.length) (hb : n + l.length ≤ 140737488355328) :
    tappend (mkTab Try.prog) w σ 55 9 (.sl (some (tk, n)) n (bvL cs)) (.str (B l)) = some (.sl (some (tk, (cs ++ l).length)) (cs ++ l).length (bvL (cs ++ l)), σ.set tk (.right (cs ++ l).length 1)) := by
  subst hn
  have := app_own (w := w) tab55 rfl tab5 rfl rfl (src_str (σ := σ) tab9 rfl (B l)) (by rw [byteTVs_B]; exact bvL_one l) (by rw [byteTVs_B, bvL_len, B_size]; exact (Nat.mul_one _).symm) hr (by rw [bvL_len]; exact (Nat.mul_one _).symm) (by rw [B_size]; show (cs.length + l.length) * 1 ≤ _; omega) (by rw [B_size]; omega)
  rw [this, byteTVs_B, B_size, bvL_append, List.length_append]
theorem appB0 {σ : TS} {l : List UInt8} (h0 : l ≠ []) (hb : l.length ≤ 140737488355328) :
    tappend (mkTab Try.prog) true σ 55 9 .nils (.str (B l)) = some (.sl (some (σ.length, l.length)) l.length (bvL l), σ ++ [.right l.length 1]) := by
  have := app_nil (σ := σ) tab55 rfl tab5 rfl rfl (src_str (σ := σ) tab9 rfl (B l)) (by rw [byteTVs_B]; exact bvL_one l) (by rw [byteTVs_B, bvL_len, B_size]; exact (Nat.mul_one _).symm) (by rw [B_size]; intro h; exact h0 (List.eq_nil_of_length_eq_zero h)) (by rw [B_size]; show l.length * 1 ≤ _; omega) (by rw [B_size]; omega)
  rw [this, byteTVs_B, B_size]
theorem app1 {w : Bool} {σ : TS} {tk n : Nat} {cs : List UInt8} {b : UInt8} (hr : σ[tk]? = some (.right n 1)) (hn : n = cs.length) (hb : n ≤ 140737488355300) :
    tappend (mkTab Try.prog) w σ 55 55 (.sl (some (tk, n)) n (bvL cs)) (.sl none 1 [.int .u8 b.toNat]) = some (.sl (some (tk, (cs ++ [b]).length)) (cs ++ [b]).length (bvL (cs ++ [b])), σ.set tk (.right (cs ++ [b]).length 1)) := by
  subst hn
  have := app_own (w := w) tab55 rfl tab5 rfl rfl (src_sl (σ := σ) (own := none) (cs := [.int .u8 b.toNat]) (n := 1) (sz := 1) tab55 rfl rfl) rfl rfl hr (by rw [bvL_len]; exact (Nat.mul_one _).symm) (by show (cs.length + 1) * 1 ≤ _; omega) (by omega)
  rw [this, bvL_append, List.length_append]
  rfl

theorem set_tlt {α : Type} {σ : List α} {t l : Nat} {a b c : α} (h : t ≠ l) : ((σ.set t a).set l b).set t c = (σ.set t c).set l b := by
  rw [List.set_comm _ _ (Ne.symm h), List.set_set]

section
variable {σ : TS} {l t : Nat} {bs : List UInt8} (hl : σ[l]? = some (.cells (wC t bs false))) (ht : σ[t]? = some (.right bs.length 1))
include hl ht
theorem text_walk (s : List UInt8) (hb : bs.length + s.length ≤ 140737488355328) : TDoes Try.prog 85 [.ptr l 0, .str (B s)] σ (.tup []) (wSet σ l t (bs ++ s) false) := by
  have h1 := lt_of_get hl
  have h2 := lt_of_get ht
  have hne : t ≠ l := fun e => by subst e; rw [hl] at ht; cases ht
  refine calls_of [] [] Try.func85 (by kernel_rfl) rfl (by kernel_rfl) fun X hR hN => ?_
  show Tw _ _ _ _ ([some _, some _] ++ List.replicate 20 none) _
  simp only [List.replicate, List.cons_append, List.nil_append]
  have FK := And.intro @hl (And.intro @ht (And.intro @get_set_ne (@List.length_set.{0}))); have FD := zdum; have FL := zdum
  refine walk ?_
  (repeat' first | exact Lv.nil | apply Lv.cons) <;> (intros; clear FL FD FK)
  all_goals exact ⟨trivial, by simp only [wSet, wC, List.length_append]⟩

theorem put8 {n : Int} (hf : Fits8 n 8) (hb : bs.length ≤ 140737488355000) : TDoes Try.prog 147 [.ptr l 0, .int .i64 n, .int .i64 8] σ (.tup []) (wSet σ l t (bs ++ be 1 n) false) := by
  have h3 := lt_of_get hl
  have h4 := lt_of_get ht
  have hne : t ≠ l := fun e => by subst e; rw [hl] at ht; cases ht
  have hq : 0 ≤ n ∧ n < 256 := hf
  have hsame : σ.set l (.cells [.sl (some (t, bs.length)) bs.length (bvL bs), .bool false]) = σ := set_same hl
  have hfit : ∀ τ, TPure Try.prog 149 [.int .i64 n, .int .i64 8] τ (.bool true) := fun τ => by
    have := fits_walk n 8 τ (by omega) (by omega) (by omega)
    rwa [decide_eq_true hf] at this
  refine calls_of [] [] Try.func147 (by kernel_rfl) rfl (by kernel_rfl) fun X hR hN => ?_
  show Tw _ _ _ _ ([some _, some _, some _] ++ List.replicate 44 none) _
  simp only [List.replicate, List.cons_append, List.nil_append]
  have FK := And.intro @hl (And.intro @hsame (And.intro @get_set_ne (@List.length_set.{0}))); have FD := zdum; have FL := zdum; have cA := @hfit
  refine walk ?_
  (repeat' first | exact Lv.nil | apply Lv.cons) <;> (intros; clear cA FL FD FK)
  refine T_open 1 ?_
  have FK := And.intro @hl (And.intro @ht (And.intro @wrapU64_of (And.intro @wrapU32_of (And.intro @ishr_u32_0 (And.intro @ishr_u32_8 (And.intro @ishr_u32_16 (And.intro @ishr_u32_24 (And.intro @wrap_b8 (And.intro @List.length_set.{0} (@List.set_set.{0})))))))))); have FD := @app1; have FL := zdum
  refine walk ?_
  (repeat' first | exact Lv.nil | apply Lv.cons) <;> (intros; clear FL FD FK)
  refine T_next ?_
  have FK := zdum; have FD := zdum; have FL := zdum
  refine walk ?_
  (repeat' first | exact Lv.nil | apply Lv.cons) <;> (intros; clear FL FD FK)
  all_goals exact ⟨trivial, by simp [wSet, wC, be, Nat.add_assoc]⟩

theorem put16 {n : Int} (hf : Fits8 n 16) (hb : bs.length ≤ 140737488355000) : TDoes Try.prog 147 [.ptr l 0, .int .i64 n, .int .i64 16] σ (.tup []) (wSet σ l t (bs ++ be 2 n) false) := by
  have h3 := lt_of_get hl
  have h4 := lt_of_get ht
  have hne : t ≠ l := fun e => by subst e; rw [hl] at ht; cases ht
  have hq : 0 ≤ n ∧ n < 65536 := hf
  have hsame : σ.set l (.cells [.sl (some (t, bs.length)) bs.length (bvL bs), .bool false]) = σ := set_same hl
  have hfit : ∀ τ, TPure Try.prog 149 [.int .i64 n, .int .i64 16] τ (.bool true) := fun τ => by
    have := fits_walk n 16 τ (by omega) (by omega) (by omega)
    rwa [decide_eq_true hf] at this
  have ha1 : ∀ (w : Bool) (C : TObj) (b0 b1 : UInt8), tappend (mkTab Try.prog) w ((σ.set t (.right (bs.length + 1) 1)).set l C) 55 55 (.sl (some (t, bs.length + 1)) (bs.length + 1) (bvL (bs ++ [b0]))) (.sl none 1 [.int .u8 b1.toNat]) =
      some (.sl (some (t, bs.length + 2)) (bs.length + 2) (bvL (bs ++ [b0, b1])), (σ.set t (.right (bs.length + 2) 1)).set l C) := fun w C b0 b1 => by
    have := app1 (w := w) (σ := (σ.set t (.right (bs.length + 1) 1)).set l C) (tk := t) (n := bs.length + 1) (cs := bs ++ [b0]) (b := b1) (by rw [List.getElem?_set_ne (Ne.symm hne), List.getElem?_set_self h4]) (by simp) (by omega)
    rw [this, set_tlt hne]
    simp
  refine calls_of [] [] Try.func147 (by kernel_rfl) rfl (by kernel_rfl) fun X hR hN => ?_
  show Tw _ _ _ _ ([some _, some _, some _] ++ List.replicate 44 none) _
  simp only [List.replicate, List.cons_append, List.nil_append]
  have FK := And.intro @hl (And.intro @hsame (And.intro @get_set_ne (@List.length_set.{0}))); have FD := zdum; have FL := zdum; have cA := @hfit
  refine walk ?_
  (repeat' first | exact Lv.nil | apply Lv.cons) <;> (intros; clear cA FL FD FK)
  refine T_open 2 ?_
  have FK := And.intro @hl (And.intro @ht (And.intro @wrapU64_of (And.intro @wrapU32_of (And.intro @ishr_u32_0 (And.intro @ishr_u32_8 (And.intro @ishr_u32_16 (And.intro @ishr_u32_24 (And.intro @wrap_b8 (And.intro @List.length_set.{0} (@List.set_set.{0})))))))))); have FD := @app1; have FL := zdum
  refine walk ?_
  (repeat' first | exact Lv.nil | apply Lv.cons) <;> (intros; clear FL FD FK)
  refine T_next ?_
  have FK := And.intro @hl (And.intro @ht (And.intro @wrapU64_of (And.intro @wrapU32_of (And.intro @ishr_u32_0 (And.intro @ishr_u32_8 (And.intro @ishr_u32_16 (And.intro @ishr_u32_24 (And.intro @wrap_b8 (And.intro @List.length_set.{0} (@List.set_set.{0})))))))))); have FD := @ha1; have FL := zdum
  refine walk ?_
  (repeat' first | exact Lv.nil | apply Lv.cons) <;> (intros; clear FL FD FK)
  refine T_next ?_
  have FK := zdum; have FD := zdum; have FL := zdum
  refine walk ?_
  (repeat' first | exact Lv.nil | apply Lv.cons) <;> (intros; clear FL FD FK)
  all_goals exact ⟨trivial, by simp [wSet, wC, be, Nat.add_assoc]⟩

theorem put32 {n : Int} (hf : Fits8 n 32) (hb : bs.length ≤ 140737488355000) : TDoes Try.prog 147 [.ptr l 0, .int .i64 n, .int .i64 32] σ (.tup []) (wSet σ l t (bs ++ be 4 n) false) := by
  have h3 := lt_of_get hl
  have h4 := lt_of_get ht
  have hne : t ≠ l := fun e => by subst e; rw [hl] at ht; cases ht
  have hq : 0 ≤ n ∧ n < 4294967296 := hf
  have hsame : σ.set l (.cells [.sl (some (t, bs.length)) bs.length (bvL bs), .bool false]) = σ := set_same hl
  have hfit : ∀ τ, TPure Try.prog 149 [.int .i64 n, .int .i64 32] τ (.bool true) := fun τ => by
    have := fits_walk n 32 τ (by omega) (by omega) (by omega)
    rwa [decide_eq_true hf] at this
  have ha1 : ∀ (w : Bool) (C : TObj) (b0 b1 : UInt8), tappend (mkTab Try.prog) w ((σ.set t (.right (bs.length + 1) 1)).set l C) 55 55 (.sl (some (t, bs.length + 1)) (bs.length + 1) (bvL (bs ++ [b0]))) (.sl none 1 [.int .u8 b1.toNat]) =
      some (.sl (some (t, bs.length + 2)) (bs.length + 2) (bvL (bs ++ [b0, b1])), (σ.set t (.right (bs.length + 2) 1)).set l C) := fun w C b0 b1 => by
    have := app1 (w := w) (σ := (σ.set t (.right (bs.length + 1) 1)).set l C) (tk := t) (n := bs.length + 1) (cs := bs ++ [b0]) (b := b1) (by rw [List.getElem?_set_ne (Ne.symm hne), List.getElem?_set_self h4]) (by simp) (by omega)
    rw [this, set_tlt hne]
    simp
  have ha2 : ∀ (w : Bool) (C : TObj) (b0 b1 b2 : UInt8), tappend (mkTab Try.prog) w ((σ.set t (.right (bs.length + 2) 1)).set l C) 55 55 (.sl (some (t, bs.length + 2)) (bs.length + 2) (bvL (bs ++ [b0, b1]))) (.sl none 1 [.int .u8 b2.toNat]) =
      some (.sl (some (t, bs.length + 3)) (bs.length + 3) (bvL (bs ++ [b0, b1, b2])), (σ.set t (.right (bs.length + 3) 1)).set l C) := fun w C b0 b1 b2 => by
    have := app1 (w := w) (σ := (σ.set t (.right (bs.length + 2) 1)).set l C) (tk := t) (n := bs.length + 2) (cs := bs ++ [b0, b1]) (b := b2) (by rw [List.getElem?_set_ne (Ne.symm hne), List.getElem?_set_self h4]) (by simp) (by omega)
    rw [this, set_tlt hne]
    simp
  have ha3 : ∀ (w : Bool) (C : TObj) (b0 b1 b2 b3 : UInt8), tappend (mkTab Try.prog) w ((σ.set t (.right (bs.length + 3) 1)).set l C) 55 55 (.sl (some (t, bs.length + 3)) (bs.length + 3) (bvL (bs ++ [b0, b1, b2]))) (.sl none 1 [.int .u8 b3.toNat]) =
      some (.sl (some (t, bs.length + 4)) (bs.length + 4) (bvL (bs ++ [b0, b1, b2, b3])), (σ.set t (.right (bs.length + 4) 1)).set l C) := fun w C b0 b1 b2 b3 => by
    have := app1 (w := w) (σ := (σ.set t (.right (bs.length + 3) 1)).set l C) (tk := t) (n := bs.length + 3) (cs := bs ++ [b0, b1, b2]) (b := b3) (by rw [List.getElem?_set_ne (Ne.symm hne), List.getElem?_set_self h4]) (by simp) (by omega)
    rw [this, set_tlt hne]
    simp
  refine calls_of [] [] Try.func147 (by kernel_rfl) rfl (by kernel_rfl) fun X hR hN => ?_
  show Tw _ _ _ _ ([some _, some _, some _] ++ List.replicate 44 none) _
  simp only [List.replicate, List.cons_append, List.nil_append]
  have FK := And.intro @hl (And.intro @hsame (And.intro @get_set_ne (@List.length_set.{0}))); have FD := zdum; have FL := zdum; have cA := @hfit
  refine walk ?_
  (repeat' first | exact Lv.nil | apply Lv.cons) <;> (intros; clear cA FL FD FK)
  refine T_open 4 ?_
  have FK := And.intro @hl (And.intro @ht (And.intro @wrapU64_of (And.intro @wrapU32_of (And.intro @ishr_u32_0 (And.intro @ishr_u32_8 (And.intro @ishr_u32_16 (And.intro @ishr_u32_24 (And.intro @wrap_b8 (And.intro @List.length_set.{0} (@List.set_set.{0})))))))))); have FD := @app1; have FL := zdum
  refine walk ?_
  (repeat' first | exact Lv.nil | apply Lv.cons) <;> (intros; clear FL FD FK)
  refine T_next ?_
  have FK := And.intro @hl (And.intro @ht (And.intro @wrapU64_of (And.intro @wrapU32_of (And.intro @ishr_u32_0 (And.intro @ishr_u32_8 (And.intro @ishr_u32_16 (And.intro @ishr_u32_24 (And.intro @wrap_b8 (And.intro @List.length_set.{0} (@List.set_set.{0})))))))))); have FD := @ha1; have FL := zdum
  refine walk ?_
  (repeat' first | exact Lv.nil | apply Lv.cons) <;> (intros; clear FL FD FK)
  refine T_next ?_
  have FK := And.intro @hl (And.intro @ht (And.intro @wrapU64_of (And.intro @wrapU32_of (And.intro @ishr_u32_0 (And.intro @ishr_u32_8 (And.intro @ishr_u32_16 (And.intro @ishr_u32_24 (And.intro @wrap_b8 (And.intro @List.length_set.{0} (@List.set_set.{0})))))))))); have FD := @ha2; have FL := zdum
  refine walk ?_
  (repeat' first | exact Lv.nil | apply Lv.cons) <;> (intros; clear FL FD FK)
  refine T_next ?_
  have FK := And.intro @hl (And.intro @ht (And.intro @wrapU64_of (And.intro @wrapU32_of (And.intro @ishr_u32_0 (And.intro @ishr_u32_8 (And.intro @ishr_u32_16 (And.intro @ishr_u32_24 (And.intro @wrap_b8 (And.intro @List.length_set.{0} (@List.set_set.{0})))))))))); have FD := @ha3; have FL := zdum
  refine walk ?_
  (repeat' first | exact Lv.nil | apply Lv.cons) <;> (intros; clear FL FD FK)
  refine T_next ?_
  have FK := zdum; have FD := zdum; have FL := zdum
  refine walk ?_
  (repeat' first | exact Lv.nil | apply Lv.cons) <;> (intros; clear FL FD FK)
  all_goals exact ⟨trivial, by simp [wSet, wC, be, Nat.add_assoc]⟩

theorem u8_walk {n : Int} (hf : Fits8 n 8) (hb : bs.length ≤ 140737488355000) : TDoes Try.prog 109 [.ptr l 0, .int .i64 n] σ (.tup []) (wSet σ l t (bs ++ be 1 n) false) := by
  have hp := put8 hl ht hf hb
  refine calls_of [] [] Try.func109 (by kernel_rfl) rfl (by kernel_rfl) fun X hR hN => ?_
  show Tw _ _ _ _ ([some _, some _] ++ List.replicate 5 none) _
  simp only [List.replicate, List.cons_append, List.nil_append]
  have FK := zdum; have FD := zdum; have FL := zdum; have dA := @hp
  refine walk ?_
  (repeat' first | exact Lv.nil | apply Lv.cons) <;> (intros; clear dA FL FD FK)
  all_goals (first | exact ⟨rfl, rfl⟩ | exact ⟨rfl, trivial⟩ | exact ⟨trivial, rfl⟩ | trivial)

theorem u16_walk {n : Int} (hf : Fits8 n 16) (hb : bs.length ≤ 140737488355000) : TDoes Try.prog 86 [.ptr l 0, .int .i64 n] σ (.tup []) (wSet σ l t (bs ++ be 2 n) false) := by
  have hp := put16 hl ht hf hb
  refine calls_of [] [] Try.func86 (by kernel_rfl) rfl (by kernel_rfl) fun X hR hN => ?_
  show Tw _ _ _ _ ([some _, some _] ++ List.replicate 5 none) _
  simp only [List.replicate, List.cons_append, List.nil_append]
  have FK := zdum; have FD := zdum; have FL := zdum; have dA := @hp
  refine walk ?_
  (repeat' first | exact Lv.nil | apply Lv.cons) <;> (intros; clear dA FL FD FK)
  all_goals (first | exact ⟨rfl, rfl⟩ | exact ⟨rfl, trivial⟩ | exact ⟨trivial, rfl⟩ | trivial)

theorem u32_walk {n : Int} (hf : Fits8 n 32) (hb : bs.length ≤ 140737488355000) : TDoes Try.prog 88 [.ptr l 0, .int .i64 n] σ (.tup []) (wSet σ l t (bs ++ be 4 n) false) := by
  have hp := put32 hl ht hf hb
  refine calls_of [] [] Try.func88 (by kernel_rfl) rfl (by kernel_rfl) fun X hR hN => ?_
  show Tw _ _ _ _ ([some _, some _] ++ List.replicate 5 none) _
  simp only [List.replicate, List.cons_append, List.nil_append]
  have FK := zdum; have FD := zdum; have FL := zdum; have dA := @hp
  refine walk ?_
  (repeat' first | exact Lv.nil | apply Lv.cons) <;> (intros; clear dA FL FD FK)
  all_goals (first | exact ⟨rfl, rfl⟩ | exact ⟨rfl, trivial⟩ | exact ⟨trivial, rfl⟩ | trivial)

end
/-- The first bytes that a writer takes. -/
theorem text_walk0 {σ : TS} {l : Nat} (hl : σ[l]? = some (.cells [.nils, .bool false])) (s : List UInt8) (h0 : s ≠ []) (hb : s.length ≤ 140737488355328) : TDoes Try.prog 85 [.ptr l 0, .str (B s)] σ (.tup []) (σ.set l (.cells (wC σ.length s false)) ++ [.right s.length 1]) := by
  have h1 := lt_of_get hl
  have happ := appB0 (σ := σ) h0 hb
  refine calls_of [19] [] Try.func85 (by kernel_rfl) rfl (by kernel_rfl) fun X hR hN => ?_
  show Tw _ _ _ _ ([some _, some _] ++ List.replicate 20 none) _
  simp only [List.replicate, List.cons_append, List.nil_append]
  have FK := @hl; have FD := @happ; have FL := zdum
  refine walk ?_
  (repeat' first | exact Lv.nil | apply Lv.cons) <;> (intros; clear FL FD FK)
  all_goals (first | exact ⟨rfl, rfl⟩ | exact ⟨rfl, trivial⟩ | exact ⟨trivial, rfl⟩ | trivial)

theorem bytes_walk {σ : TS} {l t : Nat} {bs : List UInt8} (hl : σ[l]? = some (.cells (wC t bs false))) : TPure Try.prog 99 [.ptr l 0] σ (.tup [.str (B bs), .int .i64 0]) := by
  refine pure_of [] [.tmp 2, .tmp 3] Try.func99 (by kernel_rfl) rfl (by kernel_rfl) fun X hR hN => ?_
  show Tw _ _ _ _ ([some _] ++ List.replicate 16 none) _
  simp only [List.replicate, List.cons_append, List.nil_append]
  have FK := @hl; have FD := zdum; have FL := zdum
  refine walk ?_
  (repeat' first | exact Lv.nil | apply Lv.cons) <;> (intros; clear FL FD FK)
end Go.Proofs.Ytgkcackpffimmaa
