/- The crc seat: the plain law of the sum: over bits, and over the numbers of the code. -/
import Derived.Test.YtbhhmnfjjnnkiaaGreatT17
set_option linter.unusedVariables false
set_option linter.unusedSimpArgs false
namespace Go.Proofs.YtbhhmnfjjnnkiaaGreat
open Go.TM

/-- One turn. -/
def shiftB (x : BitVec 32) : BitVec 32 := (x >>> 1) ^^^ (if x.getLsbD 0 then 0xEDB88320#32 else 0#32)
def shiftBN : Nat → BitVec 32 → BitVec 32
  | 0, c => c
  | n + 1, c => shiftBN n (shiftB c)

theorem shiftB_xor (x y : BitVec 32) : shiftB (x ^^^ y) = shiftB x ^^^ shiftB y := by
  unfold shiftB
  rw [BitVec.ushiftRight_xor_distrib, BitVec.getLsbD_xor]
  generalize x >>> 1 = a
  generalize y >>> 1 = b
  cases x.getLsbD 0 <;> cases y.getLsbD 0 <;> simp [BitVec.xor_assoc]
  · rw [BitVec.xor_comm]
  · rw [BitVec.xor_comm b, ← BitVec.xor_assoc]
    simp

theorem shiftBN_xor (n : Nat) : ∀ (x y : BitVec 32), shiftBN n (x ^^^ y) = shiftBN n x ^^^ shiftBN n y := by
  induction n with
  | zero => intro x y; rfl
  | succ n ih => intro x y; rw [shiftBN, shiftB_xor, ih]; rfl

theorem shiftB_zero (z : BitVec 32) (h : shiftB z = 0#32) : z = 0#32 := by
  have hl : z.getLsbD 0 = false := by
    cases h0 : z.getLsbD 0 with
    | false => rfl
    | true =>
      exfalso
      have h1 := congrArg (fun b : BitVec 32 => b.getLsbD 31) h
      simp [shiftB, h0] at h1
  have h2 : z >>> 1 = 0#32 := by
    unfold shiftB at h
    rw [hl, if_neg (by simp), BitVec.xor_zero] at h
    exact h
  ext i hi
  rcases Nat.eq_zero_or_pos i with rfl | hp
  · simpa [BitVec.getLsbD_eq_getElem] using hl
  · have h3 := congrArg (fun b : BitVec 32 => b.getLsbD (i - 1)) h2
    simp only [BitVec.getLsbD_ushiftRight] at h3
    rw [show 1 + (i - 1) = i by omega, BitVec.getLsbD_eq_getElem hi] at h3
    simpa using h3

theorem shiftBN_zero (n : Nat) : ∀ z : BitVec 32, shiftBN n z = 0#32 → z = 0#32 := by
  induction n with
  | zero => intro z h; exact h
  | succ n ih => intro z h; exact shiftB_zero _ (ih _ h)

theorem shiftBN_inj (n : Nat) (x y : BitVec 32) (h : shiftBN n x = shiftBN n y) : x = y := by
  have h1 : shiftBN n (x ^^^ y) = 0#32 := by rw [shiftBN_xor, h, BitVec.xor_self]
  have h2 := shiftBN_zero n _ h1
  have h3 : x ^^^ y ^^^ y = 0#32 ^^^ y := by rw [h2]
  simpa [BitVec.xor_assoc] using h3

theorem shiftBN_low (n : Nat) : ∀ z : BitVec 32, (∀ i, i < n → z.getLsbD i = false) → shiftBN n z = z >>> n := by
  induction n with
  | zero => intro z _; simp [shiftBN]
  | succ n ih =>
    intro z h
    have h0 : shiftB z = z >>> 1 := by
      unfold shiftB
      rw [h 0 (by omega), if_neg (by simp), BitVec.xor_zero]
    rw [shiftBN, h0, ih _ (fun i hi => by rw [BitVec.getLsbD_ushiftRight]; exact h _ (by omega)), ← BitVec.shiftRight_add, Nat.add_comm]

/-- A byte is taken. -/
def takeB (c : BitVec 32) (b : UInt8) : BitVec 32 := shiftBN 8 (c ^^^ b.toBitVec.setWidth 32)

theorem takeB_table (c : BitVec 32) (b : UInt8) : takeB c b = (c >>> 8) ^^^ shiftBN 8 ((c.setWidth 8 ^^^ b.toBitVec).setWidth 32) := by
  have h : c ^^^ b.toBitVec.setWidth 32 = (c >>> 8) <<< 8 ^^^ (c.setWidth 8 ^^^ b.toBitVec).setWidth 32 := by
    ext i hi
    simp only [BitVec.getElem_xor, BitVec.getElem_setWidth, BitVec.getLsbD_xor, BitVec.getLsbD_setWidth, BitVec.getElem_shiftLeft, BitVec.getLsbD_ushiftRight, BitVec.getElem_ushiftRight]
    by_cases h8 : i < 8
    · simp [h8, BitVec.getLsbD_eq_getElem hi]
    · simp [h8, BitVec.getLsbD_of_ge _ _ (Nat.le_of_not_lt h8)]
      rw [← BitVec.getLsbD_eq_getElem]
      congr 1
      omega
  rw [takeB, h, shiftBN_xor, shiftBN_low 8]
  · congr 1
    ext i hi
    simp only [BitVec.getElem_ushiftRight, BitVec.getLsbD_shiftLeft]
    by_cases hh : 8 + i < 32
    · simp [hh]
    · simp [hh, BitVec.getLsbD_of_ge _ _ (Nat.le_of_not_lt hh)]
  · intro i hi
    simp [hi]

theorem takeB_byte (c : BitVec 32) (a b : UInt8) (h : takeB c a = takeB c b) : a = b := by
  have h1 := shiftBN_inj _ _ _ h
  have h2 : c ^^^ (c ^^^ a.toBitVec.setWidth 32) = c ^^^ (c ^^^ b.toBitVec.setWidth 32) := by rw [h1]
  rw [← BitVec.xor_assoc, ← BitVec.xor_assoc, BitVec.xor_self, BitVec.zero_xor, BitVec.zero_xor] at h2
  have h3 := congrArg (BitVec.setWidth 8) h2
  simp only [BitVec.setWidth_setWidth_of_le _ (show 8 ≤ 32 by omega), BitVec.setWidth_eq] at h3
  exact UInt8.eq_of_toBitVec_eq h3

theorem takeB_sum (c d : BitVec 32) (b : UInt8) (h : takeB c b = takeB d b) : c = d := by
  have h1 := shiftBN_inj _ _ _ h
  have h2 : c ^^^ b.toBitVec.setWidth 32 ^^^ b.toBitVec.setWidth 32 = d ^^^ b.toBitVec.setWidth 32 ^^^ b.toBitVec.setWidth 32 := by rw [h1]
  simpa [BitVec.xor_assoc] using h2

def foldB (c : BitVec 32) (bs : List UInt8) : BitVec 32 := bs.foldl takeB c
theorem foldB_append (c : BitVec 32) (a b : List UInt8) : foldB c (a ++ b) = foldB (foldB c a) b := List.foldl_append
theorem foldB_inj (bs : List UInt8) : ∀ (c d : BitVec 32), foldB c bs = foldB d bs → c = d := by
  induction bs with
  | nil => intro c d h; exact h
  | cons b bs ih => intro c d h; exact takeB_sum _ _ b (ih _ _ h)

/-- One byte is another one: so is the sum. -/
theorem foldB_told (c : BitVec 32) (p : List UInt8) (a b : UInt8) (q : List UInt8) (h : foldB c (p ++ a :: q) = foldB c (p ++ b :: q)) : a = b := by
  rw [foldB_append, foldB_append] at h
  exact takeB_byte _ _ _ (foldB_inj q _ _ h)

/- the numbers of the code -/
abbrev n32 (x : BitVec 32) : Int := (x.toNat : Int)

theorem wrapU32_nat (n : Nat) (h : n < 4294967296) : IntKind.u32.wrap (n : Int) = n := wrapU32_of (by omega) (by omega)
theorem ofInt_n32 (x : BitVec 32) : BitVec.ofInt 32 (x.toNat : Int) = x := by
  rw [BitVec.ofInt_natCast, BitVec.ofNat_toNat, BitVec.setWidth_eq]

theorem ixor_n32 (x y : BitVec 32) : ixor .u32 (n32 x) (n32 y) = n32 (x ^^^ y) := by
  unfold ixor n32
  show IntKind.u32.wrap ((BitVec.ofInt 32 (x.toNat : Int) ^^^ BitVec.ofInt 32 (y.toNat : Int)).toNat : Int) = _
  rw [ofInt_n32, ofInt_n32, wrapU32_nat _ (BitVec.isLt _)]
theorem iand_n32 (x y : BitVec 32) : iand .u32 (n32 x) (n32 y) = n32 (x &&& y) := by
  unfold iand n32
  show IntKind.u32.wrap ((BitVec.ofInt 32 (x.toNat : Int) &&& BitVec.ofInt 32 (y.toNat : Int)).toNat : Int) = _
  rw [ofInt_n32, ofInt_n32, wrapU32_nat _ (BitVec.isLt _)]
theorem ishr_n32 (x : BitVec 32) (n : Nat) (h : n ≤ 32) : ishr .u32 (n32 x) n = n32 (x >>> n) := by
  unfold ishr n32
  rw [show min (n : Int).toNat IntKind.u32.bits = n by simp [IntKind.bits]; omega, BitVec.toNat_ushiftRight, Nat.shiftRight_eq_div_pow, Int.natCast_ediv]
  rw [Int.fdiv_eq_ediv_of_nonneg]
  · simp
  · exact Int.le_of_lt (Int.pow_pos (by omega))

end Go.Proofs.YtbhhmnfjjnnkiaaGreat
