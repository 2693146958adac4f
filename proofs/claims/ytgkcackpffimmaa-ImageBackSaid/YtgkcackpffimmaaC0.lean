/- The crc seat: the plain law of the sum: over bits, and over the numbers of the code. -/
import Derived.Test.YtgkcackpffimmaaT17
set_option linter.unusedVariables false
set_option linter.unusedSimpArgs false
namespace Go.Proofs.Ytgkcackpffimmaa
open Go.TM

/-- One turn. -/
def shiftB (x : BitVec 32) : BitVec 32 := (x >>> 1) ^^^ (if x.getLsbD 0 then 0xEDB88320#32 else 0#32)
def shiftBN : Nat → BitVec 32 → BitVec 32
  | 0, c => c
  | n + 1, c => shiftBN n (shiftB c)

theorem shiftB_xor (x y : BitVec 32) : shiftB (x ^^^ y) = shiftB x ^^^ shiftB y := by
  unfold shiftB
  rw [BitVec.ushiftRight_xor_distrib, BitVec.getLsbD_xor]
  generalize x >>> 1 = a
  generalize y >>> 1 = b
  cases x.getLsbD 0 <;> cases y.getLsbD 0 <;> simp [BitVec.xor_assoc]
  · rw [BitVec.xor_comm]
  · rw [BitVec.xor_comm b, ← BitVec.xor_assoc]
    simp

theorem shiftBN_xor (n : Nat) : ∀ (x y : BitVec 32), shiftBN n (x ^^^ y) = shiftBN n x ^^^ shiftBN n y := by
  induction n with
  | zero => intro x y; rfl
  | succ n ih => intro x y; rw [shiftBN, shiftB_xor, ih]; rfl

theorem shiftBN_low (n : Nat) : ∀ z : BitVec 32, (∀ i, i < n → z.getLsbD i = false) → shiftBN n z = z >>> n := by
  induction n with
  | zero => intro z _; simp [shiftBN]
  | succ n ih =>
    intro z h
    have h0 : shiftB z = z >>> 1 := by
      unfold shiftB
      rw [h 0 (by omega), if_neg (by simp), BitVec.xor_zero]
    rw [shiftBN, h0, ih _ (fun i hi => by rw [BitVec.getLsbD_ushiftRight]; exact h _ (by omega)), ← BitVec.shiftRight_add, Nat.add_comm]

/-- A byte is taken. -/
def takeB (c : BitVec 32) (b : UInt8) : BitVec 32 := shiftBN 8 (c ^^^ b.toBitVec.setWidth 32)

theorem takeB_table (c : BitVec 32) (b : UInt8) : takeB c b = (c >>> 8) ^^^ shiftBN 8 ((c.setWidth 8 ^^^ b.toBitVec).setWidth 32) := by
  have h : c ^^^ b.toBitVec.setWidth 32 = (c >>> 8) <<< 8 ^^^ (c.setWidth 8 ^^^ b.toBitVec).setWidth 32 := by
    ext i hi
    simp only [BitVec.getElem_xor, BitVec.getElem_setWidth, BitVec.getLsbD_xor, BitVec.getLsbD_setWidth, BitVec.getElem_shiftLeft, BitVec.getLsbD_ushiftRight, BitVec.getElem_ushiftRight]
    by_cases h8 : i < 8
    · simp [h8, BitVec.getLsbD_eq_getElem hi]
    · simp [h8, BitVec.getLsbD_of_ge _ _ (Nat.le_of_not_lt h8)]
      rw [← BitVec.getLsbD_eq_getElem]
      congr 1
      omega
  rw [takeB, h, shiftBN_xor, shiftBN_low 8]
  · congr 1
    ext i hi
    simp only [BitVec.getElem_ushiftRight, BitVec.getLsbD_shiftLeft]
    by_cases hh : 8 + i < 32
    · simp [hh]
    · simp [hh, BitVec.getLsbD_of_ge _ _ (Nat.le_of_not_lt hh)]
  · intro i hi
    simp [hi]

def foldB (c : BitVec 32) (bs : List UInt8) : BitVec 32 := bs.foldl takeB c
theorem foldB_append (c : BitVec 32) (a b : List UInt8) : foldB c (a ++ b) = foldB (foldB c a) b := List.foldl_append

/- the numbers of the code -/
abbrev n32 (x : BitVec 32) : Int := (x.toNat : Int)

theorem wrapU32_nat (n : Nat) (h : n < 4294967296) : IntKind.u32.wrap (n : Int) = n := wrapU32_of (by omega) (by omega)
theorem ofInt_n32 (x : BitVec 32) : BitVec.ofInt 32 (x.toNat : Int) = x := by
  rw [BitVec.ofInt_natCast, BitVec.ofNat_toNat, BitVec.setWidth_eq]

theorem ixor_n32 (x y : BitVec 32) : ixor .u32 (n32 x) (n32 y) = n32 (x ^^^ y) := by
  unfold ixor n32
  show IntKind.u32.wrap ((BitVec.ofInt 32 (x.toNat : Int) ^^^ BitVec.ofInt 32 (y.toNat : Int)).toNat : Int) = _
  rw [ofInt_n32, ofInt_n32, wrapU32_nat _ (BitVec.isLt _)]
theorem iand_n32 (x y : BitVec 32) : iand .u32 (n32 x) (n32 y) = n32 (x &&& y) := by
  unfold iand n32
  show IntKind.u32.wrap ((BitVec.ofInt 32 (x.toNat : Int) &&& BitVec.ofInt 32 (y.toNat : Int)).toNat : Int) = _
  rw [ofInt_n32, ofInt_n32, wrapU32_nat _ (BitVec.isLt _)]
theorem ishr_n32 (x : BitVec 32) (n : Nat) (h : n ≤ 32) : ishr .u32 (n32 x) n = n32 (x >>> n) := by
  unfold ishr n32
  rw [show min (n : Int).toNat IntKind.u32.bits = n by simp [IntKind.bits]; omega, BitVec.toNat_ushiftRight, Nat.shiftRight_eq_div_pow, Int.natCast_ediv]
  rw [Int.fdiv_eq_ediv_of_nonneg]
  · simp
  · exact Int.le_of_lt (Int.pow_pos (by omega))

end Go.Proofs.Ytgkcackpffimmaa
