/- What the reader of bytes computes. -/
import Derived.Test.YtgkcackpffimmaaH1
set_option linter.unusedVariables false
set_option linter.unusedSimpArgs false
set_option maxRecDepth 10000
set_option maxHeartbeats 2000000
namespace Go.Proofs.Ytgkcackpffimmaa
open Go.TM

abbrev rC (r : List UInt8) (e : Int) : List TV := [.str (B r), .int .i64 e]

@[go_sem ↓] theorem ixBs {own : Option (Nat × Nat)} {l : List UInt8} {m : Nat} {k : IntKind} {n : Int} (hm : m = l.length) (h0 : 0 ≤ n) (h1 : n < m) :
    tindexAddr (mkTab Try.prog) 55 (.sl own m (bvL l)) (.int k n) = some (.cp (.int .u8 (nth l n.toNat).toNat :: bvL (l.drop (n.toNat + 1)))) := by
  subst hm
  have hlt : n.toNat < l.length := by omega
  unfold tindexAddr
  simp only [tab55, tab5, bvL_len, Nat.mul_one]
  rw [if_pos ⟨h0, h1, hlt⟩]
  congr 2
  rw [bvL, ← List.map_drop, List.drop_eq_getElem_cons hlt, List.map_cons, nth_eq hlt]
  rfl

/-- What a reader answers that is asked for so many bytes, and what it has then. -/
def rT (n : Nat) (r : List UInt8) (e : Int) : List UInt8 × List UInt8 × Int := if e ≠ 0 then ([], r, e) else if n ≤ r.length then (r.take n, r.drop n, 0) else ([], r, 10)
theorem rT_err {n : Nat} {r : List UInt8} {e : Int} (h : e ≠ 0) : rT n r e = ([], r, e) := if_pos h
theorem rT_ok {n : Nat} {r : List UInt8} (h : n ≤ r.length) : rT n r 0 = (r.take n, r.drop n, 0) := by rw [rT, if_neg (by decide), if_pos h]
theorem rT_short {n : Nat} {r : List UInt8} (h : ¬ n ≤ r.length) : rT n r 0 = ([], r, 10) := by rw [rT, if_neg (by decide), if_neg h]

theorem err_walk {σ : TS} {l : Nat} {r : List UInt8} {e : Int} (hl : σ[l]? = some (.cells (rC r e))) : TPure Try.prog 130 [.ptr l 0] σ (.int .i64 e) := by
  refine pure_of [] [.tmp 2] Try.func130 (by kernel_rfl) rfl (by kernel_rfl) fun X hR hN => ?_
  show Tw _ _ _ _ ([some _] ++ List.replicate 8 none) _
  simp only [List.replicate, List.cons_append, List.nil_append]
  have FK := @hl; have FD := zdum; have FL := zdum
  refine walk ?_
  (repeat' first | exact Lv.nil | apply Lv.cons) <;> (intros; clear FL FD FK)
theorem left_walk {σ : TS} {l : Nat} {r : List UInt8} {e : Int} (hl : σ[l]? = some (.cells (rC r e))) : TPure Try.prog 117 [.ptr l 0] σ (.int .i64 r.length) := by
  refine pure_of [] [.tmp 2] Try.func117 (by kernel_rfl) rfl (by kernel_rfl) fun X hR hN => ?_
  show Tw _ _ _ _ ([some _] ++ List.replicate 9 none) _
  simp only [List.replicate, List.cons_append, List.nil_append]
  have FK := @hl; have FD := zdum; have FL := zdum
  refine walk ?_
  (repeat' first | exact Lv.nil | apply Lv.cons) <;> (intros; clear FL FD FK)
theorem read_walk (r : List UInt8) (σ : TS) : TDoes Try.prog 113 [.str (B r)] σ (.ptr σ.length 0) (σ ++ [.cells (rC r 0)]) := by
  refine calls_of [] [.tmp 2] Try.func113 (by kernel_rfl) rfl (by kernel_rfl) fun X hR hN => ?_
  show Tw _ _ _ _ ([some _] ++ List.replicate 5 none) _
  simp only [List.replicate, List.cons_append, List.nil_append]
  have FK := zdum; have FD := zdum; have FL := zdum
  refine walk ?_
  (repeat' first | exact Lv.nil | apply Lv.cons) <;> (intros; clear FL FD FK)
  all_goals (first | exact ⟨rfl, rfl⟩ | exact ⟨rfl, trivial⟩ | exact ⟨trivial, rfl⟩ | trivial)

theorem rtext_walk {σ : TS} {l : Nat} {r : List UInt8} {e : Int} (hl : σ[l]? = some (.cells (rC r e))) (n : Nat) (hr : r.length ≤ 9223372036854775807) : TDoes Try.prog 116 [.ptr l 0, .int .i64 n] σ (.str (B (rT n r e).1)) (σ.set l (.cells (rC (rT n r e).2.1 (rT n r e).2.2))) := by
  have h1 := lt_of_get hl
  have herr : ∀ τ : TS, τ[l]? = some (.cells (rC r e)) → TPure Try.prog 130 [.ptr l 0] τ (.int .i64 e) := fun τ h => err_walk h
  by_cases he : e = 0
  · subst he
    by_cases hn : n ≤ r.length
    · rw [rT_ok hn]
      refine calls_of [] [.tmp 4] Try.func116 (by kernel_rfl) rfl (by kernel_rfl) fun X hR hN => ?_
      show Tw _ _ _ _ ([some _, some _] ++ List.replicate 40 none) _
      simp only [List.replicate, List.cons_append, List.nil_append]
      have FK := @hl; have FD := zdum; have FL := zdum; have cA := @herr
      refine walk ?_
      (repeat' first | exact Lv.nil | apply Lv.cons) <;> (intros; clear cA FL FD FK)
      all_goals (first | exact ⟨rfl, rfl⟩ | exact ⟨rfl, trivial⟩ | exact ⟨trivial, rfl⟩ | trivial)
    · rw [rT_short hn]
      refine calls_of [] [.tmp 4] Try.func116 (by kernel_rfl) rfl (by kernel_rfl) fun X hR hN => ?_
      show Tw _ _ _ _ ([some _, some _] ++ List.replicate 40 none) _
      simp only [List.replicate, List.cons_append, List.nil_append]
      have FK := @hl; have FD := zdum; have FL := zdum; have cA := @herr
      refine walk ?_
      (repeat' first | exact Lv.nil | apply Lv.cons) <;> (intros; clear cA FL FD FK)
      all_goals (first | exact ⟨rfl, rfl⟩ | exact ⟨rfl, trivial⟩ | exact ⟨trivial, rfl⟩ | trivial)
  · rw [rT_err he]
    refine calls_of [] [.tmp 4] Try.func116 (by kernel_rfl) rfl (by kernel_rfl) fun X hR hN => ?_
    show Tw _ _ _ _ ([some _, some _] ++ List.replicate 40 none) _
    simp only [List.replicate, List.cons_append, List.nil_append]
    have FK := @hl; have FD := zdum; have FL := zdum; have cA := @herr
    refine walk ?_
    (repeat' first | exact Lv.nil | apply Lv.cons) <;> (intros; clear cA FL FD FK)
    all_goals exact ⟨by first | rfl | trivial, (set_same hl).symm⟩

theorem ior_byte {a b : Int} (h0 : 0 ≤ a) (h1 : a < 16777216) (h2 : 0 ≤ b) (h3 : b < 256) : ior .u32 (ishl .u32 a 8) b = 256 * a + b := by
  obtain ⟨m, rfl⟩ := Int.eq_ofNat_of_zero_le h0
  obtain ⟨k, rfl⟩ := Int.eq_ofNat_of_zero_le h2
  have hs : ishl .u32 (m : Int) 8 = ((m <<< 8 : Nat) : Int) := by
    unfold ishl
    rw [show min (Int.toNat 8) (IntKind.bits .u32) = 8 from rfl, wrapU32_of (by omega) (by omega), Nat.shiftLeft_eq]
    push_cast
    omega
  have hlt : m <<< 8 < 4294967296 := by rw [Nat.shiftLeft_eq]; omega
  rw [hs]
  unfold ior
  rw [show IntKind.bits .u32 = 32 from rfl, BitVec.ofInt_natCast, BitVec.ofInt_natCast, BitVec.toNat_or, BitVec.toNat_ofNat, BitVec.toNat_ofNat, Nat.mod_eq_of_lt (by omega), Nat.mod_eq_of_lt (by omega), ← Nat.shiftLeft_add_eq_or_of_lt (by omega : k < 2 ^ 8), wrapU32_of (by omega) (by rw [Nat.shiftLeft_eq]; omega), Nat.shiftLeft_eq]
  push_cast
  omega

theorem un_take {s : List UInt8} {i : Nat} (h : i < s.length) : un (s.take (i + 1)) = 256 * un (s.take i) + (nth s i).toNat := by
  rw [List.take_succ_eq_append_getElem h, un_snoc, nth_eq h]
theorem un_small (s : List UInt8) (h : s.length ≤ 3) : un s < 16777216 := by
  have := un_lt s
  have h2 : s.length = 0 ∨ s.length = 1 ∨ s.length = 2 ∨ s.length = 3 := by omega
  rcases h2 with h2 | h2 | h2 | h2 <;> rw [h2] at this <;> simp at this <;> omega
theorem un_u32 (s : List UInt8) (h : s.length ≤ 4) : un s < 4294967296 := by
  have := un_lt s
  have h2 : s.length = 0 ∨ s.length = 1 ∨ s.length = 2 ∨ s.length = 3 ∨ s.length = 4 := by omega
  rcases h2 with h2 | h2 | h2 | h2 | h2 <;> rw [h2] at this <;> simp at this <;> omega

theorem number_walk {σ τ : TS} {l : Nat} {s : List UInt8} {k : Nat} (hk : k ≤ 4) (hs : s.length ≤ 4) (ht : TDoes Try.prog 116 [.ptr l 0, .int .i64 k] σ (.str (B s)) τ) (hq : (8 * (k : Int)).tdiv 8 = k) :
    TDoes Try.prog 161 [.ptr l 0, .int .i64 (8 * (k : Int))] σ (.int .u32 (un s)) τ := by
  refine calls_of [] [.tmp 4] Try.func161 (by kernel_rfl) rfl (by kernel_rfl) fun X hR hN => ?_
  show Tw _ _ _ _ ([some _, some _] ++ List.replicate 23 none) _
  simp only [List.replicate, List.cons_append, List.nil_append]
  have FK := @hq; have FD := zdum; have FL := zdum; have dA := @ht
  refine walk ?_
  (repeat' first | exact Lv.nil | apply Lv.cons) <;> (intros; clear dA FL FD FK)
  refine T_each (α := Nat) (fun i => [none, none, none, none, none, some (some (.int .u32 (un (s.take i)))), none, none, none, none, none, none, some (some (.sl none s.length (bvL s))), some (some (.int .i64 s.length)), some (some (.int .i64 i)), none, none, none, none, none, none, none, none, none, none]) (fun i => i ≤ s.length) (fun i => s.length - i) (fun i => τ) ?_ ?_
  · refine ⟨(0), ⟨rfl, rfl, rfl, rfl, trivial⟩, ?_, rfl⟩
    omega
  · rintro i q hi
    show Tw _ _ _ _ ([q 0, q 1, q 2, q 3, q 4, some (.int .u32 (un (s.take i))), q 6, q 7, q 8, q 9, q 10, q 11, some (.sl none s.length (bvL s)), some (.int .i64 s.length), some (.int .i64 i), q 15, q 16, q 17, q 18, q 19, q 20, q 21, q 22, q 23, q 24]) (τ)
    have hsm := un_small (s.take (min i 3)) (by rw [List.length_take]; omega)
    have h0 := un_nonneg (s.take i)
    rcases Nat.lt_or_ge i s.length with hlt | hge
    · rw [Nat.min_eq_left (by omega)] at hsm
      have hb := (nth s i).toNat_lt
      have hor := ior_byte h0 hsm (b := (nth s i).toNat) (by omega) (by omega)
      have FK := And.intro @wrapU32_of (@hor); have FD := zdum; have FL := zdum
      refine walk ?_
      (repeat' first | exact Lv.nil | apply Lv.cons) <;> (intros; clear FL FD FK)
      · rw [← un_take hlt]
        refine ⟨(i + 1), ?_, ⟨rfl, rfl, rfl, rfl, trivial⟩, ?_, (by first | rfl | trivial)⟩
        all_goals (try dsimp only)
        · omega
        · omega
    · obtain rfl : i = s.length := by omega
      have FK := zdum; have FD := zdum; have FL := zdum
      refine walk ?_
      (repeat' first | exact Lv.nil | apply Lv.cons) <;> (intros; clear FL FD FK)
      all_goals (rw [List.take_length]; first | exact ⟨rfl, rfl⟩ | exact ⟨rfl, trivial⟩ | exact ⟨trivial, rfl⟩ | trivial)
theorem rT_len (n : Nat) (r : List UInt8) (e : Int) : (rT n r e).1.length ≤ n := by
  unfold rT
  split
  · simp
  · split
    · simp; omega
    · simp
theorem ru8_walk {σ : TS} {l : Nat} {r : List UInt8} {e : Int} (hl : σ[l]? = some (.cells (rC r e))) (hr : r.length ≤ 9223372036854775807) :
    TDoes Try.prog 118 [.ptr l 0] σ (.int .i64 (un (rT 1 r e).1)) (σ.set l (.cells (rC (rT 1 r e).2.1 (rT 1 r e).2.2))) := by
  have hs := rT_len 1 r e
  have h0 := un_nonneg (rT 1 r e).1
  have h1 := un_u32 (rT 1 r e).1 (by omega)
  have hn := number_walk (k := 1) (by omega) (by omega) (rtext_walk hl 1 hr) rfl
  refine calls_of [] [.tmp 2] Try.func118 (by kernel_rfl) rfl (by kernel_rfl) fun X hR hN => ?_
  show Tw _ _ _ _ ([some _] ++ List.replicate 5 none) _
  simp only [List.replicate, List.cons_append, List.nil_append]
  have FK := zdum; have FD := zdum; have FL := zdum; have dA := @hn
  refine walk ?_
  (repeat' first | exact Lv.nil | apply Lv.cons) <;> (intros; clear dA FL FD FK)
  all_goals (first | exact ⟨rfl, rfl⟩ | exact ⟨rfl, trivial⟩ | exact ⟨trivial, rfl⟩ | trivial)
theorem ru16_walk {σ : TS} {l : Nat} {r : List UInt8} {e : Int} (hl : σ[l]? = some (.cells (rC r e))) (hr : r.length ≤ 9223372036854775807) :
    TDoes Try.prog 115 [.ptr l 0] σ (.int .i64 (un (rT 2 r e).1)) (σ.set l (.cells (rC (rT 2 r e).2.1 (rT 2 r e).2.2))) := by
  have hs := rT_len 2 r e
  have h0 := un_nonneg (rT 2 r e).1
  have h1 := un_u32 (rT 2 r e).1 (by omega)
  have hn := number_walk (k := 2) (by omega) (by omega) (rtext_walk hl 2 hr) rfl
  refine calls_of [] [.tmp 2] Try.func115 (by kernel_rfl) rfl (by kernel_rfl) fun X hR hN => ?_
  show Tw _ _ _ _ ([some _] ++ List.replicate 5 none) _
  simp only [List.replicate, List.cons_append, List.nil_append]
  have FK := zdum; have FD := zdum; have FL := zdum; have dA := @hn
  refine walk ?_
  (repeat' first | exact Lv.nil | apply Lv.cons) <;> (intros; clear dA FL FD FK)
  all_goals (first | exact ⟨rfl, rfl⟩ | exact ⟨rfl, trivial⟩ | exact ⟨trivial, rfl⟩ | trivial)
end Go.Proofs.Ytgkcackpffimmaa
