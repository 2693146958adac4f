/- What the writer of bytes does with numbers of few bits; writers in one heap. -/
import Derived.Test.YtgkcackpffimmaaH1
set_option linter.unusedVariables false
set_option linter.unusedSimpArgs false
set_option maxRecDepth 10000
set_option maxHeartbeats 4000000
namespace Go.Proofs.Ytgkcackpffimmaa
open Go.TM

/- bits of a byte -/
theorem ior_nat {a b : Nat} (ha : a < 2 ^ 64) (hb : b < 2 ^ 64) : ior .u64 a b = ((a ||| b : Nat) : Int) := by
  unfold ior
  show IntKind.u64.wrap ((BitVec.ofInt 64 (a : Int) ||| BitVec.ofInt 64 (b : Int)).toNat : Int) = _
  rw [BitVec.ofInt_natCast, BitVec.ofInt_natCast, BitVec.toNat_or, BitVec.toNat_ofNat, BitVec.toNat_ofNat, Nat.mod_eq_of_lt ha, Nat.mod_eq_of_lt hb]
  have := Nat.or_lt_two_pow ha hb
  exact wrapU64_of (by omega) (by omega)
theorem ior_low (k : Nat) {n b : Int} (hn : 0 ≤ n) (hb : 0 ≤ b) (hb2 : b < 2 ^ k) (hm : n * 2 ^ k + b < 2 ^ 64) : ior .u64 (n * 2 ^ k) b = n * 2 ^ k + b := by
  obtain ⟨m, rfl⟩ : ∃ m : Nat, n = m := ⟨n.toNat, by omega⟩
  obtain ⟨c, rfl⟩ : ∃ c : Nat, b = c := ⟨b.toNat, by omega⟩
  have e1 : (m : Int) * 2 ^ k = ((m * 2 ^ k : Nat) : Int) := by push_cast; rfl
  have h1 : m * 2 ^ k + c < 2 ^ 64 := by have := hm; rw [e1] at this; exact_mod_cast this
  have h2 : c < 2 ^ k := by exact_mod_cast hb2
  rw [e1, ior_nat (by omega) (by omega), ← Nat.shiftLeft_eq, ← Nat.shiftLeft_add_eq_or_of_lt h2]
  push_cast
  rfl

section
variable {σ : TS} {l t : Nat} {bs : List UInt8}
/-- A writer's heap, with these bytes in it. -/
def wAt (σ : TS) (l t : Nat) (bs : List UInt8) : TS := wSet σ l t bs false
theorem wAt_same (hl : σ[l]? = some (.cells (wC t bs false))) (ht : σ[t]? = some (.right bs.length 1)) : wAt σ l t bs = σ := by
  unfold wAt wSet
  rw [set_same ht, set_same hl]
theorem wAt_len : (wAt σ l t bs).length = σ.length := by simp [wAt, wSet]
theorem wAt_l (hl : l < σ.length) : (wAt σ l t bs)[l]? = some (.cells (wC t bs false)) := List.getElem?_set_self (by simpa using hl)
theorem wAt_t (ht : t < σ.length) (hne : t ≠ l) : (wAt σ l t bs)[t]? = some (.right bs.length 1) := by
  unfold wAt wSet
  rw [List.getElem?_set_ne (Ne.symm hne)]
  exact List.getElem?_set_self ht
theorem wAt_p {p : Nat} (h1 : p ≠ l) (h2 : p ≠ t) : (wAt σ l t bs)[p]? = σ[p]? := by
  unfold wAt wSet
  rw [List.getElem?_set_ne (Ne.symm h1), List.getElem?_set_ne (Ne.symm h2)]
@[go_sem] theorem wAt_app0 {ρ : TS} : (wAt σ l t bs ++ ρ)[σ.length]? = ρ[0]? := by
  rw [List.getElem?_append_right (by rw [wAt_len]; exact Nat.le_refl _), wAt_len, Nat.sub_self]
@[go_sem] theorem wAt_app {ρ : TS} {k : Nat} : (wAt σ l t bs ++ ρ)[σ.length + k]? = ρ[k]? := by
  rw [List.getElem?_append_right (by rw [wAt_len]; omega), wAt_len]; congr 1; omega
@[go_sem] theorem wAt_setapp0 {ρ : TS} {o : TObj} : (wAt σ l t bs ++ ρ).set σ.length o = wAt σ l t bs ++ ρ.set 0 o := by
  rw [List.set_append_right _ _ (by rw [wAt_len]; exact Nat.le_refl _), wAt_len, Nat.sub_self]
@[go_sem] theorem wAt_setapp {ρ : TS} {k : Nat} {o : TObj} : (wAt σ l t bs ++ ρ).set (σ.length + k) o = wAt σ l t bs ++ ρ.set k o := by
  rw [List.set_append_right _ _ (by rw [wAt_len]; omega), wAt_len]; congr 2; omega
theorem wSet_app {ρ : TS} {b c : List UInt8} (hl : l < σ.length) (ht : t < σ.length) (hne : t ≠ l) : wSet (wAt σ l t b ++ ρ) l t c false = wAt σ l t c ++ ρ := by
  have h1 : t < (wAt σ l t b).length := by rw [wAt_len]; exact ht
  have h2 : l < (wAt σ l t b).length := by rw [wAt_len]; exact hl
  show ((wAt σ l t b ++ ρ).set t _).set l _ = _
  rw [List.set_append_left _ _ h1, List.set_append_left _ _ (by simpa using h2)]
  congr 1
  unfold wAt wSet
  rw [List.set_comm _ _ hne, List.set_set, List.set_comm _ _ (Ne.symm hne), List.set_set]

structure WB (σ : TS) (l t : Nat) : Prop where
  hl : l < σ.length
  ht : t < σ.length
  ne : t ≠ l
theorem WB.of (hl : σ[l]? = some (.cells (wC t bs false))) (ht : σ[t]? = some (.right bs.length 1)) : WB σ l t :=
  ⟨lt_of_get hl, lt_of_get ht, fun e => by subst e; rw [hl] at ht; cases ht⟩
section
variable (h : WB σ l t) (ρ : TS) (b : List UInt8)
include h
theorem WB.gl : (wAt σ l t b ++ ρ)[l]? = some (.cells (wC t b false)) := by rw [List.getElem?_append_left (by rw [wAt_len]; exact h.hl)]; exact wAt_l h.hl
theorem WB.gt : (wAt σ l t b ++ ρ)[t]? = some (.right b.length 1) := by rw [List.getElem?_append_left (by rw [wAt_len]; exact h.ht)]; exact wAt_t h.ht h.ne
theorem u16_at {n : Int} (hf : 0 ≤ n ∧ n ≤ 65535) (hb : b.length ≤ 100000000) : TDoes Try.prog 86 [.ptr l 0, .int .i64 n] (wAt σ l t b ++ ρ) (.tup []) (wAt σ l t (b ++ be 2 n) ++ ρ) := by
  have := u16_walk (h.gl ρ b) (h.gt ρ b) (n := n) ⟨hf.1, by show n < 65536; omega⟩ (show b.length ≤ 140737488355000 by omega)
  rwa [wSet_app h.hl h.ht h.ne] at this
theorem u32_at {n : Int} (hf : 0 ≤ n ∧ n ≤ 4294967295) (hb : b.length ≤ 100000000) : TDoes Try.prog 88 [.ptr l 0, .int .i64 n] (wAt σ l t b ++ ρ) (.tup []) (wAt σ l t (b ++ be 4 n) ++ ρ) := by
  have := u32_walk (h.gl ρ b) (h.gt ρ b) (n := n) ⟨hf.1, by show n < 4294967296; omega⟩ (show b.length ≤ 140737488355000 by omega)
  rwa [wSet_app h.hl h.ht h.ne] at this
end
end

theorem u16_to {σ : TS} {l t : Nat} {b b' : List UInt8} (h : WB σ l t) {n : Int} (hf : 0 ≤ n ∧ n ≤ 65535) (hb : b.length ≤ 100000000) (e : b' = b ++ be 2 n) (ρ : TS) : TDoes Try.prog 86 [.ptr l 0, .int .i64 n] (wAt σ l t b ++ ρ) (.tup []) (wAt σ l t b' ++ ρ) := by
  subst e; exact u16_at h ρ b hf hb
theorem u32_to {σ : TS} {l t : Nat} {b b' : List UInt8} (h : WB σ l t) {n : Int} (hf : 0 ≤ n ∧ n ≤ 4294967295) (hb : b.length ≤ 100000000) (e : b' = b ++ be 4 n) (ρ : TS) : TDoes Try.prog 88 [.ptr l 0, .int .i64 n] (wAt σ l t b ++ ρ) (.tup []) (wAt σ l t b' ++ ρ) := by
  subst e; exact u32_at h ρ b hf hb
/- widths -/
abbrev three (a b c : Int) : TV := .sl none 3 [.int .i64 a, .int .i64 b, .int .i64 c]
theorem sum413 (σ : TS) : TPure Try.prog 148 [three 4 1 3] σ (.int .i64 8) := by
  refine pure_of [] [.tmp 2] Try.func148 (by kernel_rfl) rfl (by kernel_rfl) fun X hR hN => ?_
  show Tw _ _ _ _ ([some _] ++ List.replicate 31 none) _
  simp only [List.replicate, List.cons_append, List.nil_append]
  have FK := zdum; have FD := zdum; have FL := zdum
  refine walk ?_
  (repeat' first | exact Lv.nil | apply Lv.cons) <;> (intros; clear FL FD FK)
  refine T_open 3 ?_
  have FK := zdum; have FD := zdum; have FL := zdum
  refine walk ?_
  (repeat' first | exact Lv.nil | apply Lv.cons) <;> (intros; clear FL FD FK)
  refine T_next ?_
  have FK := zdum; have FD := zdum; have FL := zdum
  refine walk ?_
  (repeat' first | exact Lv.nil | apply Lv.cons) <;> (intros; clear FL FD FK)
  refine T_next ?_
  have FK := zdum; have FD := zdum; have FL := zdum
  refine walk ?_
  (repeat' first | exact Lv.nil | apply Lv.cons) <;> (intros; clear FL FD FK)
  refine T_next ?_
  have FK := zdum; have FD := zdum; have FL := zdum
  refine walk ?_
  (repeat' first | exact Lv.nil | apply Lv.cons) <;> (intros; clear FL FD FK)
theorem sum215 (σ : TS) : TPure Try.prog 148 [three 2 1 5] σ (.int .i64 8) := by
  refine pure_of [] [.tmp 2] Try.func148 (by kernel_rfl) rfl (by kernel_rfl) fun X hR hN => ?_
  show Tw _ _ _ _ ([some _] ++ List.replicate 31 none) _
  simp only [List.replicate, List.cons_append, List.nil_append]
  have FK := zdum; have FD := zdum; have FL := zdum
  refine walk ?_
  (repeat' first | exact Lv.nil | apply Lv.cons) <;> (intros; clear FL FD FK)
  refine T_open 3 ?_
  have FK := zdum; have FD := zdum; have FL := zdum
  refine walk ?_
  (repeat' first | exact Lv.nil | apply Lv.cons) <;> (intros; clear FL FD FK)
  refine T_next ?_
  have FK := zdum; have FD := zdum; have FL := zdum
  refine walk ?_
  (repeat' first | exact Lv.nil | apply Lv.cons) <;> (intros; clear FL FD FK)
  refine T_next ?_
  have FK := zdum; have FD := zdum; have FL := zdum
  refine walk ?_
  (repeat' first | exact Lv.nil | apply Lv.cons) <;> (intros; clear FL FD FK)
  refine T_next ?_
  have FK := zdum; have FD := zdum; have FL := zdum
  refine walk ?_
  (repeat' first | exact Lv.nil | apply Lv.cons) <;> (intros; clear FL FD FK)

theorem ishl_u64_4 {n : Int} (h : 0 ≤ n ∧ n < 4294967296) : ishl .u64 n 4 = n * 2 ^ 4 := by
  unfold ishl; exact wrapU64_of (by show 0 ≤ n * 16; omega) (by show n * 16 ≤ _; omega)
theorem ishl_u64_1 {n : Int} (h : 0 ≤ n ∧ n < 4294967296) : ishl .u64 n 1 = n * 2 ^ 1 := by
  unfold ishl; exact wrapU64_of (by show 0 ≤ n * 2; omega) (by show n * 2 ≤ _; omega)
theorem ishl_u64_3 {n : Int} (h : 0 ≤ n ∧ n < 4294967296) : ishl .u64 n 3 = n * 2 ^ 3 := by
  unfold ishl; exact wrapU64_of (by show 0 ≤ n * 8; omega) (by show n * 8 ≤ _; omega)
theorem ishl_u64_2 {n : Int} (h : 0 ≤ n ∧ n < 4294967296) : ishl .u64 n 2 = n * 2 ^ 2 := by
  unfold ishl; exact wrapU64_of (by show 0 ≤ n * 4; omega) (by show n * 4 ≤ _; omega)
theorem ishl_u64_5 {n : Int} (h : 0 ≤ n ∧ n < 4294967296) : ishl .u64 n 5 = n * 2 ^ 5 := by
  unfold ishl; exact wrapU64_of (by show 0 ≤ n * 32; omega) (by show n * 32 ≤ _; omega)

section
variable {σ : TS} {l t : Nat} {bs : List UInt8} (hl : σ[l]? = some (.cells (wC t bs false))) (ht : σ[t]? = some (.right bs.length 1)) (hb : bs.length ≤ 100000000)
include hl ht hb
theorem bits413 {a b c : Int} (ha : 0 ≤ a ∧ a < 16) (hb2 : 0 ≤ b ∧ b < 2) (hc : 0 ≤ c ∧ c < 8) : TDoes Try.prog 93 [.ptr l 0, three 4 1 3, three a b c] σ (.tup []) (wSet σ l t (bs ++ be 1 (16 * a + 8 * b + c)) false) := by
  have hlt := lt_of_get hl
  have hsame : σ.set l (.cells [.sl (some (t, bs.length)) bs.length (bvL bs), .bool false]) = σ := set_same hl
  have f1 : ∀ τ, TPure Try.prog 149 [.int .i64 a, .int .i64 4] τ (.bool true) := fun τ => by
    have := fits_walk a 4 τ (by omega) (by omega) (by omega)
    rwa [decide_eq_true (show Fits8 a 4 from ⟨ha.1, ha.2⟩)] at this
  have f2 : ∀ τ, TPure Try.prog 149 [.int .i64 b, .int .i64 1] τ (.bool true) := fun τ => by
    have := fits_walk b 1 τ (by omega) (by omega) (by omega)
    rwa [decide_eq_true (show Fits8 b 1 from ⟨hb2.1, hb2.2⟩)] at this
  have f3 : ∀ τ, TPure Try.prog 149 [.int .i64 c, .int .i64 3] τ (.bool true) := fun τ => by
    have := fits_walk c 3 τ (by omega) (by omega) (by omega)
    rwa [decide_eq_true (show Fits8 c 3 from ⟨hc.1, hc.2⟩)] at this
  have s1 : ishl .u64 0 4 = 0 := rfl
  have o1 : ior .u64 0 a = a := by have := ior_low 4 (n := 0) (by omega) ha.1 (by show a < 16; omega) (by show 0 * 16 + a < 18446744073709551616; omega); simpa using this
  have s2 : ishl .u64 a 1 = a * 2 ^ 1 := ishl_u64_1 (by omega)
  have o2 : ior .u64 (a * 2 ^ 1) b = 2 * a + b := by rw [ior_low 1 ha.1 hb2.1 (by show b < 2; omega) (by show a * 2 + b < 18446744073709551616; omega)]; show a * 2 + b = _; omega
  have s3 : ishl .u64 (2 * a + b) 3 = (2 * a + b) * 2 ^ 3 := ishl_u64_3 (by omega)
  have o3 : ior .u64 ((2 * a + b) * 2 ^ 3) c = 16 * a + 8 * b + c := by rw [ior_low 3 (by omega) hc.1 (by show c < 8; omega) (by show (2 * a + b) * 8 + c < 18446744073709551616; omega)]; show (2 * a + b) * 8 + c = _; omega
  have hput := put8 hl ht (n := 16 * a + 8 * b + c) ⟨by omega, by show _ < 256; omega⟩ (by omega)
  refine calls_of [] [] Try.func93 (by kernel_rfl) rfl (by kernel_rfl) fun X hR hN => ?_
  show Tw _ _ _ _ ([some _, some _, some _] ++ List.replicate 70 none) _
  simp only [List.replicate, List.cons_append, List.nil_append]
  have FK := And.intro @hl (@hsame); have FD := zdum; have FL := zdum; have cA := @sum413
  refine walk ?_
  (repeat' first | exact Lv.nil | apply Lv.cons) <;> (intros; clear cA FL FD FK)
  refine T_open 3 ?_
  have FK := And.intro @hl (And.intro @hsame (@wrapU64_of)); have FD := And.intro @s1 (@o1); have FL := zdum; have cA := @f1
  refine walk ?_
  (repeat' first | exact Lv.nil | apply Lv.cons) <;> (intros; clear cA FL FD FK)
  refine T_next ?_
  have FK := And.intro @hl (And.intro @hsame (@wrapU64_of)); have FD := And.intro @s2 (@o2); have FL := zdum; have cA := @f2
  refine walk ?_
  (repeat' first | exact Lv.nil | apply Lv.cons) <;> (intros; clear cA FL FD FK)
  refine T_next ?_
  have FK := And.intro @hl (And.intro @hsame (@wrapU64_of)); have FD := And.intro @s3 (@o3); have FL := zdum; have cA := @f3
  refine walk ?_
  (repeat' first | exact Lv.nil | apply Lv.cons) <;> (intros; clear cA FL FD FK)
  refine T_next ?_
  have FK := And.intro @hl (@hsame); have FD := zdum; have FL := zdum; have dA := @hput
  refine walk ?_
  (repeat' first | exact Lv.nil | apply Lv.cons) <;> (intros; clear dA FL FD FK)
  all_goals exact ⟨trivial, trivial⟩
theorem bits215 {a b c : Int} (ha : 0 ≤ a ∧ a < 4) (hb2 : 0 ≤ b ∧ b < 2) (hc : 0 ≤ c ∧ c < 32) : TDoes Try.prog 93 [.ptr l 0, three 2 1 5, three a b c] σ (.tup []) (wSet σ l t (bs ++ be 1 (64 * a + 32 * b + c)) false) := by
  have hlt := lt_of_get hl
  have hsame : σ.set l (.cells [.sl (some (t, bs.length)) bs.length (bvL bs), .bool false]) = σ := set_same hl
  have f1 : ∀ τ, TPure Try.prog 149 [.int .i64 a, .int .i64 2] τ (.bool true) := fun τ => by
    have := fits_walk a 2 τ (by omega) (by omega) (by omega)
    rwa [decide_eq_true (show Fits8 a 2 from ⟨ha.1, ha.2⟩)] at this
  have f2 : ∀ τ, TPure Try.prog 149 [.int .i64 b, .int .i64 1] τ (.bool true) := fun τ => by
    have := fits_walk b 1 τ (by omega) (by omega) (by omega)
    rwa [decide_eq_true (show Fits8 b 1 from ⟨hb2.1, hb2.2⟩)] at this
  have f3 : ∀ τ, TPure Try.prog 149 [.int .i64 c, .int .i64 5] τ (.bool true) := fun τ => by
    have := fits_walk c 5 τ (by omega) (by omega) (by omega)
    rwa [decide_eq_true (show Fits8 c 5 from ⟨hc.1, hc.2⟩)] at this
  have s1 : ishl .u64 0 2 = 0 := rfl
  have o1 : ior .u64 0 a = a := by have := ior_low 2 (n := 0) (by omega) ha.1 (by show a < 4; omega) (by show 0 * 4 + a < 18446744073709551616; omega); simpa using this
  have s2 : ishl .u64 a 1 = a * 2 ^ 1 := ishl_u64_1 (by omega)
  have o2 : ior .u64 (a * 2 ^ 1) b = 2 * a + b := by rw [ior_low 1 ha.1 hb2.1 (by show b < 2; omega) (by show a * 2 + b < 18446744073709551616; omega)]; show a * 2 + b = _; omega
  have s3 : ishl .u64 (2 * a + b) 5 = (2 * a + b) * 2 ^ 5 := ishl_u64_5 (by omega)
  have o3 : ior .u64 ((2 * a + b) * 2 ^ 5) c = 64 * a + 32 * b + c := by rw [ior_low 5 (by omega) hc.1 (by show c < 32; omega) (by show (2 * a + b) * 32 + c < 18446744073709551616; omega)]; show (2 * a + b) * 32 + c = _; omega
  have hput := put8 hl ht (n := 64 * a + 32 * b + c) ⟨by omega, by show _ < 256; omega⟩ (by omega)
  refine calls_of [] [] Try.func93 (by kernel_rfl) rfl (by kernel_rfl) fun X hR hN => ?_
  show Tw _ _ _ _ ([some _, some _, some _] ++ List.replicate 70 none) _
  simp only [List.replicate, List.cons_append, List.nil_append]
  have FK := And.intro @hl (@hsame); have FD := zdum; have FL := zdum; have cA := @sum215
  refine walk ?_
  (repeat' first | exact Lv.nil | apply Lv.cons) <;> (intros; clear cA FL FD FK)
  refine T_open 3 ?_
  have FK := And.intro @hl (And.intro @hsame (@wrapU64_of)); have FD := And.intro @s1 (@o1); have FL := zdum; have cA := @f1
  refine walk ?_
  (repeat' first | exact Lv.nil | apply Lv.cons) <;> (intros; clear cA FL FD FK)
  refine T_next ?_
  have FK := And.intro @hl (And.intro @hsame (@wrapU64_of)); have FD := And.intro @s2 (@o2); have FL := zdum; have cA := @f2
  refine walk ?_
  (repeat' first | exact Lv.nil | apply Lv.cons) <;> (intros; clear cA FL FD FK)
  refine T_next ?_
  have FK := And.intro @hl (And.intro @hsame (@wrapU64_of)); have FD := And.intro @s3 (@o3); have FL := zdum; have cA := @f3
  refine walk ?_
  (repeat' first | exact Lv.nil | apply Lv.cons) <;> (intros; clear cA FL FD FK)
  refine T_next ?_
  have FK := And.intro @hl (@hsame); have FD := zdum; have FL := zdum; have dA := @hput
  refine walk ?_
  (repeat' first | exact Lv.nil | apply Lv.cons) <;> (intros; clear dA FL FD FK)
  all_goals exact ⟨trivial, trivial⟩
end
section
variable {σ : TS} {l t : Nat}
theorem bits413_to {b b' : List UInt8} (h : WB σ l t) {x y z : Int} (ha : 0 ≤ x ∧ x < 16) (hb2 : 0 ≤ y ∧ y < 2) (hc : 0 ≤ z ∧ z < 8) (hb : b.length ≤ 100000000) (e : b' = b ++ be 1 (16 * x + 8 * y + z)) (ρ : TS) :
    TDoes Try.prog 93 [.ptr l 0, three 4 1 3, three x y z] (wAt σ l t b ++ ρ) (.tup []) (wAt σ l t b' ++ ρ) := by
  subst e
  have := bits413 (h.gl ρ b) (h.gt ρ b) hb ha hb2 hc
  rwa [wSet_app h.hl h.ht h.ne] at this
theorem bits215_to {b b' : List UInt8} (h : WB σ l t) {x y z : Int} (ha : 0 ≤ x ∧ x < 4) (hb2 : 0 ≤ y ∧ y < 2) (hc : 0 ≤ z ∧ z < 32) (hb : b.length ≤ 100000000) (e : b' = b ++ be 1 (64 * x + 32 * y + z)) (ρ : TS) :
    TDoes Try.prog 93 [.ptr l 0, three 2 1 5, three x y z] (wAt σ l t b ++ ρ) (.tup []) (wAt σ l t b' ++ ρ) := by
  subst e
  have := bits215 (h.gl ρ b) (h.gt ρ b) hb ha hb2 hc
  rwa [wSet_app h.hl h.ht h.ne] at this
end
end Go.Proofs.Ytgkcackpffimmaa
