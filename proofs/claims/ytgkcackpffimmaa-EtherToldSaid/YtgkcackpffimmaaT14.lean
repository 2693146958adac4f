/- The T-machine, part 14: what the operators on numbers and texts come to. -/
import Derived.Test.YtgkcackpffimmaaT13
set_option linter.unusedVariables false
namespace Go.TM

section
variable (t : TypeId) (k : IntKind) (a b : Int)
theorem bin_add : ofSem (binOp .add t (.int k a) (.int k b)) = some (.int k (k.wrap (a + b))) := by simp [binOp, ofSem, const1, Op.intArith]; rfl
theorem bin_sub : ofSem (binOp .sub t (.int k a) (.int k b)) = some (.int k (k.wrap (a - b))) := by simp [binOp, ofSem, const1, Op.intArith]; rfl
theorem bin_mul : ofSem (binOp .mul t (.int k a) (.int k b)) = some (.int k (k.wrap (a * b))) := by simp [binOp, ofSem, const1, Op.intArith]; rfl
theorem bin_quo : ofSem (binOp .quo t (.int k a) (.int k b)) = if b = 0 then none else some (.int k (k.wrap (a.tdiv b))) := by
  by_cases h : b = 0 <;> simp [binOp, ofSem, const1, Op.intDiv, h]
  all_goals rfl
theorem bin_rem : ofSem (binOp .rem t (.int k a) (.int k b)) = if b = 0 then none else some (.int k (a.tmod b)) := by
  by_cases h : b = 0 <;> simp [binOp, ofSem, const1, Op.intDiv, h]
  all_goals rfl
def iand (k : IntKind) (a b : Int) : Int := k.wrap (BitVec.ofInt k.bits a &&& BitVec.ofInt k.bits b).toNat
def ior (k : IntKind) (a b : Int) : Int := k.wrap (BitVec.ofInt k.bits a ||| BitVec.ofInt k.bits b).toNat
def ixor (k : IntKind) (a b : Int) : Int := k.wrap (BitVec.ofInt k.bits a ^^^ BitVec.ofInt k.bits b).toNat
def iandNot (k : IntKind) (a b : Int) : Int := k.wrap (BitVec.ofInt k.bits a &&& ~~~BitVec.ofInt k.bits b).toNat
theorem bin_and : ofSem (binOp .and t (.int k a) (.int k b)) = some (.int k (iand k a b)) := by simp [binOp, ofSem, const1, Op.intBits, iand]; rfl
theorem bin_or : ofSem (binOp .or t (.int k a) (.int k b)) = some (.int k (ior k a b)) := by simp [binOp, ofSem, const1, Op.intBits, ior]; rfl
theorem bin_xor : ofSem (binOp .xor t (.int k a) (.int k b)) = some (.int k (ixor k a b)) := by simp [binOp, ofSem, const1, Op.intBits, ixor]; rfl
theorem bin_andNot : ofSem (binOp .andNot t (.int k a) (.int k b)) = some (.int k (iandNot k a b)) := by simp [binOp, ofSem, const1, Op.intBits, iandNot]; rfl
def ishl (k : IntKind) (a b : Int) : Int := k.wrap (a * 2 ^ min b.toNat k.bits)
def ishr (k : IntKind) (a b : Int) : Int := a.fdiv (2 ^ min b.toNat k.bits)
theorem bin_shl (j : IntKind) : ofSem (binOp .shl t (.int k a) (.int j b)) = if b < 0 then none else some (.int k (ishl k a b)) := by
  by_cases h : b < 0 <;> simp [binOp, ofSem, const1, Op.shift, h, ishl]
  all_goals rfl
theorem bin_shr (j : IntKind) : ofSem (binOp .shr t (.int k a) (.int j b)) = if b < 0 then none else some (.int k (ishr k a b)) := by
  by_cases h : b < 0 <;> simp [binOp, ofSem, const1, Op.shift, h, ishr]
  all_goals rfl
theorem bin_eql : ofSem (binOp .eql t (.int k a) (.int k b)) = some (.bool (a == b)) := by simp [binOp, ofSem, const1, Op.intCmp]; rfl
theorem bin_neq : ofSem (binOp .neq t (.int k a) (.int k b)) = some (.bool (a != b)) := by simp [binOp, ofSem, const1, Op.intCmp]; rfl
theorem bin_lss : ofSem (binOp .lss t (.int k a) (.int k b)) = some (.bool (decide (a < b))) := by simp [binOp, ofSem, const1, Op.intCmp]; rfl
theorem bin_leq : ofSem (binOp .leq t (.int k a) (.int k b)) = some (.bool (decide (a ≤ b))) := by simp [binOp, ofSem, const1, Op.intCmp]; rfl
theorem bin_gtr : ofSem (binOp .gtr t (.int k a) (.int k b)) = some (.bool (decide (a > b))) := by simp [binOp, ofSem, const1, Op.intCmp]; rfl
theorem bin_geq : ofSem (binOp .geq t (.int k a) (.int k b)) = some (.bool (decide (a ≥ b))) := by simp [binOp, ofSem, const1, Op.intCmp]; rfl
theorem un_neg : tun .neg (.int k a) = some (.int k (k.wrap (0 - a))) := by simp [tun, ofSem, Op.unary, Op.intArith, const1]; rfl
theorem un_xor : tun .xor (.int k a) = some (.int k (ixor k (if k.signed then -1 else k.max) a)) := by simp [tun, ofSem, Op.unary, Op.intBits, const1, ixor]; rfl
theorem un_not (x : Bool) : tun .not (.bool x) = some (.bool (!x)) := by simp [tun, ofSem, Op.unary, const1]; rfl
end

theorem beq_str (a b : ByteArray) : (a.toList == b.toList) = decide (a = b) := by
  rw [ByteArray.toList_eq, ByteArray.toList_eq]
  obtain ⟨⟨x⟩⟩ := a
  obtain ⟨⟨y⟩⟩ := b
  rw [Bool.eq_iff_iff]
  simp

theorem str_eql (a b : ByteArray) : ofSem (Op.stringOp .eql a b) = some (.bool (decide (a = b))) := by
  rw [← beq_str]; rfl
theorem str_neq (a b : ByteArray) : ofSem (Op.stringOp .neq a b) = some (.bool (!decide (a = b))) := by
  rw [← beq_str]; rfl
theorem str_add (a b : ByteArray) : ofSem (Op.stringOp .add a b) = if ((a.size + b.size : Nat) : Int) > IntKind.i64.max then none else some (.str (a ++ b)) := by
  simp only [Op.stringOp]
  split <;> rfl

theorem wrap64_of {n : Int} (h1 : -9223372036854775808 ≤ n) (h2 : n ≤ 9223372036854775807) : IntKind.i64.wrap n = n := by
  unfold IntKind.wrap
  simp only [IntKind.bits, IntKind.signed, Bool.true_and]
  split
  · rename_i h
    simp only [ge_iff_le, decide_eq_true_eq] at h
    omega
  · rename_i h
    simp only [ge_iff_le, decide_eq_true_eq] at h
    omega

theorem wrapU8_of {n : Int} (h1 : 0 ≤ n) (h2 : n ≤ 255) : IntKind.u8.wrap n = n := by
  unfold IntKind.wrap
  simp only [IntKind.bits, IntKind.signed, Bool.false_and, Bool.false_eq_true, if_false]
  omega
theorem wrapU16_of {n : Int} (h1 : 0 ≤ n) (h2 : n ≤ 65535) : IntKind.u16.wrap n = n := by
  unfold IntKind.wrap
  simp only [IntKind.bits, IntKind.signed, Bool.false_and, Bool.false_eq_true, if_false]
  omega
theorem wrapU32_of {n : Int} (h1 : 0 ≤ n) (h2 : n ≤ 4294967295) : IntKind.u32.wrap n = n := by
  unfold IntKind.wrap
  simp only [IntKind.bits, IntKind.signed, Bool.false_and, Bool.false_eq_true, if_false]
  omega
theorem wrapU64_of {n : Int} (h1 : 0 ≤ n) (h2 : n ≤ 18446744073709551615) : IntKind.u64.wrap n = n := by
  unfold IntKind.wrap
  simp only [IntKind.bits, IntKind.signed, Bool.false_and, Bool.false_eq_true, if_false]
  omega

theorem rowZero_one (z : TV) (n : Nat) : rowZero [z] n = List.replicate n z := by
  unfold rowZero
  rw [List.eq_replicate_iff]
  refine ⟨by simp, fun b hb => ?_⟩
  rw [List.mem_map] at hb
  obtain ⟨i, _, rfl⟩ := hb
  simp [Nat.mod_one]

theorem twL_nil {P : Program} {wn : List Tmp} {ops : Array Oper} {Q : TL → TS → Prop} {m : TL} {σ : TS} : twL P wn ops Q [] m σ ↔ Q m σ := by
  rw [twL]

end Go.TM
