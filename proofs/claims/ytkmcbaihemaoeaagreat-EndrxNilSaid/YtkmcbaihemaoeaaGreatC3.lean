/- The crc seat: the plain law of the sum: over bits, and over the numbers of the code. -/
import Derived.Test.YtkmcbaihemaoeaaGreatT17
import Derived.Test.YtkmcbaihemaoeaaGreatTab
set_option linter.unusedVariables false
set_option linter.unusedSimpArgs false
namespace Go.Proofs.YtkmcbaihemaoeaaGreat
open Go.TM

/-- One turn. -/
def shiftB (x : BitVec 32) : BitVec 32 := (x >>> 1) ^^^ (if x.getLsbD 0 then 0xEDB88320#32 else 0#32)
def shiftBN : Nat → BitVec 32 → BitVec 32
  | 0, c => c
  | n + 1, c => shiftBN n (shiftB c)

theorem shiftB_xor (x y : BitVec 32) : shiftB (x ^^^ y) = shiftB x ^^^ shiftB y := by
  unfold shiftB
  rw [BitVec.ushiftRight_xor_distrib, BitVec.getLsbD_xor]
  generalize x >>> 1 = a
  generalize y >>> 1 = b
  cases x.getLsbD 0 <;> cases y.getLsbD 0 <;> simp [BitVec.xor_assoc]
  · rw [BitVec.xor_comm]
  · rw [BitVec.xor_comm b, ← BitVec.xor_assoc]
    simp

theorem shiftBN_xor (n : Nat) : ∀ (x y : BitVec 32), shiftBN n (x ^^^ y) = shiftBN n x ^^^ shiftBN n y := by
  induction n with
  | zero => intro x y; rfl
  | succ n ih => intro x y; rw [shiftBN, shiftB_xor, ih]; rfl

theorem shiftB_zero (z : BitVec 32) (h : shiftB z = 0#32) : z = 0#32 := by
  have hl : z.getLsbD 0 = false := by
    cases h0 : z.getLsbD 0 with
    | false => rfl
    | true =>
      exfalso
      have h1 := congrArg (fun b : BitVec 32 => b.getLsbD 31) h
      simp [shiftB, h0] at h1
  have h2 : z >>> 1 = 0#32 := by
    unfold shiftB at h
    rw [hl, if_neg (by simp), BitVec.xor_zero] at h
    exact h
  ext i hi
  rcases Nat.eq_zero_or_pos i with rfl | hp
  · simpa [BitVec.getLsbD_eq_getElem] using hl
  · have h3 := congrArg (fun b : BitVec 32 => b.getLsbD (i - 1)) h2
    simp only [BitVec.getLsbD_ushiftRight] at h3
    rw [show 1 + (i - 1) = i by omega, BitVec.getLsbD_eq_getElem hi] at h3
    simpa using h3

theorem shiftBN_zero (n : Nat) : ∀ z : BitVec 32, shiftBN n z = 0#32 → z = 0#32 := by
  induction n with
  | zero => intro z h; exact h
  | succ n ih => intro z h; exact shiftB_zero _ (ih _ h)

theorem shiftBN_inj (n : Nat) (x y : BitVec 32) (h : shiftBN n x = shiftBN n y) : x = y := by
  have h1 : shiftBN n (x ^^^ y) = 0#32 := by rw [shiftBN_xor, h, BitVec.xor_self]
  have h2 := shiftBN_zero n _ h1
  have h3 : x ^^^ y ^^^ y = 0#32 ^^^ y := by rw [h2]
  simpa [BitVec.xor_assoc] using h3

theorem shiftBN_low (n : Nat) : ∀ z : BitVec 32, (∀ i, i < n → z.getLsbD i = false) → shiftBN n z = z >>> n := by
  induction n with
  | zero => intro z _; simp [shiftBN]
  | succ n ih =>
    intro z h
    have h0 : shiftB z = z >>> 1 := by
      unfold shiftB
      rw [h 0 (by omega), if_neg (by simp), BitVec.xor_zero]
    rw [shiftBN, h0, ih _ (fun i hi => by rw [BitVec.getLsbD_ushiftRight]; exact h _ (by omega)), ← BitVec.shiftRight_add, Nat.add_comm]

/-- A byte is taken. -/
def takeB (c : BitVec 32) (b : UInt8) : BitVec 32 := shiftBN 8 (c ^^^ b.toBitVec.setWidth 32)

theorem takeB_table (c : BitVec 32) (b : UInt8) : takeB c b = (c >>> 8) ^^^ shiftBN 8 ((c.setWidth 8 ^^^ b.toBitVec).setWidth 32) := by
  have h : c ^^^ b.toBitVec.setWidth 32 = (c >>> 8) <<< 8 ^^^ (c.setWidth 8 ^^^ b.toBitVec).setWidth 32 := by
    ext i hi
    simp only [BitVec.getElem_xor, BitVec.getElem_setWidth, BitVec.getLsbD_xor, BitVec.getLsbD_setWidth, BitVec.getElem_shiftLeft, BitVec.getLsbD_ushiftRight, BitVec.getElem_ushiftRight]
    by_cases h8 : i < 8
    · simp [h8, BitVec.getLsbD_eq_getElem hi]
    · simp [h8, BitVec.getLsbD_of_ge _ _ (Nat.le_of_not_lt h8)]
      rw [← BitVec.getLsbD_eq_getElem]
      congr 1
      omega
  rw [takeB, h, shiftBN_xor, shiftBN_low 8]
  · congr 1
    ext i hi
    simp only [BitVec.getElem_ushiftRight, BitVec.getLsbD_shiftLeft]
    by_cases hh : 8 + i < 32
    · simp [hh]
    · simp [hh, BitVec.getLsbD_of_ge _ _ (Nat.le_of_not_lt hh)]
  · intro i hi
    simp [hi]

theorem takeB_byte (c : BitVec 32) (a b : UInt8) (h : takeB c a = takeB c b) : a = b := by
  have h1 := shiftBN_inj _ _ _ h
  have h2 : c ^^^ (c ^^^ a.toBitVec.setWidth 32) = c ^^^ (c ^^^ b.toBitVec.setWidth 32) := by rw [h1]
  rw [← BitVec.xor_assoc, ← BitVec.xor_assoc, BitVec.xor_self, BitVec.zero_xor, BitVec.zero_xor] at h2
  have h3 := congrArg (BitVec.setWidth 8) h2
  simp only [BitVec.setWidth_setWidth_of_le _ (show 8 ≤ 32 by omega), BitVec.setWidth_eq] at h3
  exact UInt8.eq_of_toBitVec_eq h3

theorem takeB_sum (c d : BitVec 32) (b : UInt8) (h : takeB c b = takeB d b) : c = d := by
  have h1 := shiftBN_inj _ _ _ h
  have h2 : c ^^^ b.toBitVec.setWidth 32 ^^^ b.toBitVec.setWidth 32 = d ^^^ b.toBitVec.setWidth 32 ^^^ b.toBitVec.setWidth 32 := by rw [h1]
  simpa [BitVec.xor_assoc] using h2

def foldB (c : BitVec 32) (bs : List UInt8) : BitVec 32 := bs.foldl takeB c
theorem foldB_append (c : BitVec 32) (a b : List UInt8) : foldB c (a ++ b) = foldB (foldB c a) b := List.foldl_append
theorem foldB_inj (bs : List UInt8) : ∀ (c d : BitVec 32), foldB c bs = foldB d bs → c = d := by
  induction bs with
  | nil => intro c d h; exact h
  | cons b bs ih => intro c d h; exact takeB_sum _ _ b (ih _ _ h)

/-- One byte is another one: so is the sum. -/
theorem foldB_told (c : BitVec 32) (p : List UInt8) (a b : UInt8) (q : List UInt8) (h : foldB c (p ++ a :: q) = foldB c (p ++ b :: q)) : a = b := by
  rw [foldB_append, foldB_append] at h
  exact takeB_byte _ _ _ (foldB_inj q _ _ h)

/- the numbers of the code -/
abbrev n32 (x : BitVec 32) : Int := (x.toNat : Int)

theorem wrapU32_nat (n : Nat) (h : n < 4294967296) : IntKind.u32.wrap (n : Int) = n := wrapU32_of (by omega) (by omega)
theorem ofInt_n32 (x : BitVec 32) : BitVec.ofInt 32 (x.toNat : Int) = x := by
  rw [BitVec.ofInt_natCast, BitVec.ofNat_toNat, BitVec.setWidth_eq]

theorem ixor_n32 (x y : BitVec 32) : ixor .u32 (n32 x) (n32 y) = n32 (x ^^^ y) := by
  unfold ixor n32
  show IntKind.u32.wrap ((BitVec.ofInt 32 (x.toNat : Int) ^^^ BitVec.ofInt 32 (y.toNat : Int)).toNat : Int) = _
  rw [ofInt_n32, ofInt_n32, wrapU32_nat _ (BitVec.isLt _)]
theorem iand_n32 (x y : BitVec 32) : iand .u32 (n32 x) (n32 y) = n32 (x &&& y) := by
  unfold iand n32
  show IntKind.u32.wrap ((BitVec.ofInt 32 (x.toNat : Int) &&& BitVec.ofInt 32 (y.toNat : Int)).toNat : Int) = _
  rw [ofInt_n32, ofInt_n32, wrapU32_nat _ (BitVec.isLt _)]
theorem ishr_n32 (x : BitVec 32) (n : Nat) (h : n ≤ 32) : ishr .u32 (n32 x) n = n32 (x >>> n) := by
  unfold ishr n32
  rw [show min (n : Int).toNat IntKind.u32.bits = n by simp [IntKind.bits]; omega, BitVec.toNat_ushiftRight, Nat.shiftRight_eq_div_pow, Int.natCast_ediv]
  rw [Int.fdiv_eq_ediv_of_nonneg]
  · simp
  · exact Int.le_of_lt (Int.pow_pos (by omega))

end Go.Proofs.YtkmcbaihemaoeaaGreat

/- The crc seat: what each function of the table and of the sums does, over trees. -/
set_option linter.unusedVariables false
set_option linter.unusedSimpArgs false
set_option maxRecDepth 10000
namespace Go.Proofs.YtkmcbaihemaoeaaGreat
open Go.TM

/-- One turn of eight, as the code's. -/
def shiftInt (c : Int) : Int := ixor .u32 (ishr .u32 c 1) (iand .u32 3988292384 (IntKind.u32.wrap (0 - iand .u32 c 1)))
def shiftN : Nat → Int → Int
  | 0, c => c
  | n + 1, c => shiftN n (shiftInt c)
theorem shiftN_succ (n : Nat) (c : Int) : shiftN (n + 1) c = shiftInt (shiftN n c) := by
  induction n generalizing c with
  | zero => rfl
  | succ n ih => rw [shiftN, ih]; rfl

def tabInt (i : Nat) : TV := .int .u32 (shiftN 8 i)
def tabCells (i : Nat) : List TV := (List.range i).map tabInt ++ List.replicate (256 - i) (.int .u32 0)

theorem tabCells_step (i : Nat) (h : i < 256) : (tabCells i).take i ++ [tabInt i] ++ (tabCells i).drop (i + 1) = tabCells (i + 1) := by
  unfold tabCells
  rw [List.take_left' (by simp), List.drop_append]
  simp only [List.length_map, List.length_range, List.range_succ, List.map_append, List.map_cons, List.map_nil]
  rw [List.drop_eq_nil_of_le (by simp), show i + 1 - i = 1 by omega, List.drop_replicate, show 256 - i - 1 = 256 - (i + 1) by omega]
  simp
theorem tabCells_length (i : Nat) (h : i ≤ 256) : (tabCells i).length = 256 := by
  unfold tabCells; simp; omega

theorem make_walk (σ : TS) : TCalls Tryz.prog 332 [] σ fun r σ' => r = .ptr σ.length 0 ∧ σ' = σ ++ [.cells (tabCells 256)] := by
  refine tcalls_of [] Tryz.func332 (by kernel_rfl) rfl ?_
  show tw _ _ _ _ (List.replicate 28 none) _
  simp only [List.replicate]
  first | with_reducible refine tw_reg_seq fun K hK => ?_ | (refine tw_seq_assoc ?_; with_reducible refine tw_reg_seq fun K hK => ?_)
  simp only [List.toList_toArray, List.append_eq, List.cons_append, List.nil_append]
  repeat (first | (first | with_reducible refine twL_go fun Cw cw => ?_ | with_reducible refine twL_yes rfl fun Cw cw => ?_); simp only [go_sem]; (first | refine cw _ _ ?_ | refine Or.inl (cw _ _ ?_)); clear cw Cw; simp only [tput, List.set_cons_zero, List.set_cons_succ] | (with_reducible refine twL_no _ rfl rfl ?_); simp only [tput, List.set_cons_zero, List.set_cons_succ])
  refine twL_nil.2 (hK _ _ ?_); clear hK K
  first | with_reducible refine tw_reg_seq fun K hK => ?_ | (refine tw_seq_assoc ?_; with_reducible refine tw_reg_seq fun K hK => ?_)
  simp only [List.toList_toArray, List.append_eq, List.cons_append, List.nil_append]
  repeat (first | (first | with_reducible refine twL_go fun Cw cw => ?_ | with_reducible refine twL_yes rfl fun Cw cw => ?_); simp only [go_sem]; (first | refine cw _ _ ?_ | refine Or.inl (cw _ _ ?_)); clear cw Cw; simp only [tput, List.set_cons_zero, List.set_cons_succ] | (with_reducible refine twL_no _ rfl rfl ?_); simp only [tput, List.set_cons_zero, List.set_cons_succ])
  refine twL_nil.2 (hK _ _ ?_); clear hK K
  refine tw_seq_assoc ?_
  first | with_reducible refine tw_reg_seq fun K hK => ?_ | (refine tw_seq_assoc ?_; with_reducible refine tw_reg_seq fun K hK => ?_)
  simp only [List.toList_toArray, List.append_eq, List.cons_append, List.nil_append]
  repeat (first | (first | with_reducible refine twL_go fun Cw cw => ?_ | with_reducible refine twL_yes rfl fun Cw cw => ?_); simp only [go_sem]; (first | refine cw _ _ ?_ | refine Or.inl (cw _ _ ?_)); clear cw Cw; simp only [tput, List.set_cons_zero, List.set_cons_succ] | (with_reducible refine twL_no _ rfl rfl ?_); simp only [tput, List.set_cons_zero, List.set_cons_succ])
  refine twL_nil.2 (hK _ _ ?_); clear hK K
  refine tw_block_seq fun K hK => ?_
  refine tw_loop (fun n m s => ∃ (i : Nat) (iz : Int) (x2 x3 x4 x5 x7 x8 x9 x10 x11 x12 x13 x14 x15 x16 x17 x18 x19 x20 x21 x22 x23 x24 x25 x26 x27 : Option TV), m = [some (.nilp), some (.ptr σ.length 0), x2, x3, x4, x5, some (.int .i64 iz), x7, x8, x9, x10, x11, x12, x13, x14, x15, x16, x17, x18, x19, x20, x21, x22, x23, x24, x25, x26, x27] ∧ iz = i ∧ n = 256 - i ∧ i ≤ 256 ∧ s = σ ++ [.cells (tabCells i)]) (n := 256) ?_ ?_
  · exact ⟨0, _, _, _, _, _, _, _, _, _, _, _, _, _, _, _, _, _, _, _, _, _, _, _, _, _, _, rfl, rfl, rfl, by omega, rfl⟩
  · rintro n m s ⟨i, _, x2, x3, x4, x5, x7, x8, x9, x10, x11, x12, x13, x14, x15, x16, x17, x18, x19, x20, x21, x22, x23, x24, x25, x26, x27, rfl, rfl, rfl, hi, rfl⟩
    first | with_reducible refine tw_reg_seq fun K hK => ?_ | (refine tw_seq_assoc ?_; with_reducible refine tw_reg_seq fun K hK => ?_)
    simp only [List.toList_toArray, List.append_eq, List.cons_append, List.nil_append]
    repeat (first | (first | with_reducible refine twL_go fun Cw cw => ?_ | with_reducible refine twL_yes rfl fun Cw cw => ?_); simp only [go_sem]; (first | refine cw _ _ ?_ | refine Or.inl (cw _ _ ?_)); clear cw Cw; simp only [tput, List.set_cons_zero, List.set_cons_succ] | (with_reducible refine twL_no _ rfl rfl ?_); simp only [tput, List.set_cons_zero, List.set_cons_succ])
    refine twL_nil.2 (hK _ _ ?_); clear hK K
    refine tw_cond_seq rfl (fun h => ?_) (fun h => ?_)
    · refine tw_skip_seq ?_
      simp only [decide_eq_true_eq] at h
      refine tw_block_seq fun K1 hK1 => ?_
      first | with_reducible refine tw_reg_seq fun K hK => ?_ | (refine tw_seq_assoc ?_; with_reducible refine tw_reg_seq fun K hK => ?_)
      simp only [List.toList_toArray, List.append_eq, List.cons_append, List.nil_append]
      repeat (first | (first | with_reducible refine twL_go fun Cw cw => ?_ | with_reducible refine twL_yes rfl fun Cw cw => ?_); simp only [go_sem]; (first | refine cw _ _ ?_ | refine Or.inl (cw _ _ ?_)); clear cw Cw; simp only [tput, List.set_cons_zero, List.set_cons_succ] | (with_reducible refine twL_no _ rfl rfl ?_); simp only [tput, List.set_cons_zero, List.set_cons_succ])
      refine twL_nil.2 (hK _ _ ?_); clear hK K
      first | with_reducible refine tw_reg_seq fun K hK => ?_ | (refine tw_seq_assoc ?_; with_reducible refine tw_reg_seq fun K hK => ?_)
      simp only [List.toList_toArray, List.append_eq, List.cons_append, List.nil_append]
      repeat (first | (first | with_reducible refine twL_go fun Cw cw => ?_ | with_reducible refine twL_yes rfl fun Cw cw => ?_); simp only [go_sem]; (first | refine cw _ _ ?_ | refine Or.inl (cw _ _ ?_)); clear cw Cw; simp only [tput, List.set_cons_zero, List.set_cons_succ] | (with_reducible refine twL_no _ rfl rfl ?_); simp only [tput, List.set_cons_zero, List.set_cons_succ])
      refine twL_nil.2 (hK _ _ ?_); clear hK K
      refine tw_seq_assoc ?_
      first | with_reducible refine tw_reg_seq fun K hK => ?_ | (refine tw_seq_assoc ?_; with_reducible refine tw_reg_seq fun K hK => ?_)
      simp only [List.toList_toArray, List.append_eq, List.cons_append, List.nil_append]
      repeat (first | (first | with_reducible refine twL_go fun Cw cw => ?_ | with_reducible refine twL_yes rfl fun Cw cw => ?_); simp only [go_sem]; (first | refine cw _ _ ?_ | refine Or.inl (cw _ _ ?_)); clear cw Cw; simp only [tput, List.set_cons_zero, List.set_cons_succ] | (with_reducible refine twL_no _ rfl rfl ?_); simp only [tput, List.set_cons_zero, List.set_cons_succ])
      refine twL_nil.2 (hK _ _ ?_); clear hK K
      refine tw_block_seq fun K2 hK2 => ?_
      refine tw_loop (fun n m s => ∃ (j : Nat) (jz c : Int) (x4 x5 x7 x8 x9 x10 x12 x13 x14 x15 x16 x17 x18 x19 x20 x21 x22 x23 x24 x25 x26 x27 : Option TV), m = [some (.nilp), some (.ptr σ.length 0), some (.int .i64 (i : Int)), some (.int .u32 c), x4, x5, some (.int .i64 (i : Int)), x7, x8, x9, x10, some (.int .i64 jz), x12, x13, x14, x15, x16, x17, x18, x19, x20, x21, x22, x23, x24, x25, x26, x27] ∧ jz = j ∧ c = shiftN j i ∧ n = 8 - j ∧ j ≤ 8 ∧ s = σ ++ [.cells (tabCells i)]) (n := 8) ?_ ?_
      · exact ⟨0, _, _, _, _, _, _, _, _, _, _, _, _, _, _, _, _, _, _, _, _, _, _, _, _, rfl, rfl, wrapU32_of (by omega) (by omega), rfl, by omega, rfl⟩
      · rintro n m s ⟨j, _, c, x4, x5, x7, x8, x9, x10, x12, x13, x14, x15, x16, x17, x18, x19, x20, x21, x22, x23, x24, x25, x26, x27, rfl, rfl, hc, rfl, hj, rfl⟩
        first | with_reducible refine tw_reg_seq fun K hK => ?_ | (refine tw_seq_assoc ?_; with_reducible refine tw_reg_seq fun K hK => ?_)
        simp only [List.toList_toArray, List.append_eq, List.cons_append, List.nil_append]
        repeat (first | (first | with_reducible refine twL_go fun Cw cw => ?_ | with_reducible refine twL_yes rfl fun Cw cw => ?_); simp only [go_sem]; (first | refine cw _ _ ?_ | refine Or.inl (cw _ _ ?_)); clear cw Cw; simp only [tput, List.set_cons_zero, List.set_cons_succ] | (with_reducible refine twL_no _ rfl rfl ?_); simp only [tput, List.set_cons_zero, List.set_cons_succ])
        refine twL_nil.2 (hK _ _ ?_); clear hK K
        refine tw_cond_seq rfl (fun h2 => ?_) (fun h2 => ?_)
        · refine tw_skip_seq ?_
          simp only [decide_eq_true_eq] at h2
          refine tw_block_seq fun K3 hK3 => ?_
          refine tw_reg_end fun K hK => ?_
          simp only [List.toList_toArray, List.append_eq, List.cons_append, List.nil_append]
          repeat (first | (first | with_reducible refine twL_go fun Cw cw => ?_ | with_reducible refine twL_yes rfl fun Cw cw => ?_); simp only [go_sem]; (first | refine cw _ _ ?_ | refine Or.inl (cw _ _ ?_)); clear cw Cw; simp only [tput, List.set_cons_zero, List.set_cons_succ] | (with_reducible refine twL_no _ rfl rfl ?_); simp only [tput, List.set_cons_zero, List.set_cons_succ])
          refine twL_nil.2 (hK _ _ ?_); clear hK K
          refine hK3 _ _ ?_
          refine tw_reg_end fun K hK => ?_
          simp only [List.toList_toArray, List.append_eq, List.cons_append, List.nil_append]
          repeat (first | (first | with_reducible refine twL_go fun Cw cw => ?_ | with_reducible refine twL_yes rfl fun Cw cw => ?_); simp only [go_sem]; (first | refine cw _ _ ?_ | refine Or.inl (cw _ _ ?_)); clear cw Cw; simp only [tput, List.set_cons_zero, List.set_cons_succ] | (with_reducible refine twL_no _ rfl rfl ?_); simp only [tput, List.set_cons_zero, List.set_cons_succ])
          refine twL_nil.2 (hK _ _ ?_); clear hK K
          exact ⟨8 - (j + 1), by omega, j + 1, _, _, _, _, _, _, _, _, _, _, _, _, _, _, _, _, _, _, _, _, _, _, _, _, rfl, by rw [wrap64_of (by omega) (by omega)]; omega, by rw [shiftN_succ, ← hc]; rfl, rfl, by omega, rfl⟩
        · refine tw_exit_seq ?_
          simp only [decide_eq_false_iff_not] at h2
          obtain rfl : j = 8 := by omega
          refine hK2 _ _ ?_
          have hlen : (σ ++ [TObj.cells (tabCells i)])[σ.length]? = some (.cells (tabCells i)) := by simp
          have h1 : i < 256 := by omega
          have h3 : i + 1 ≤ (tabCells i).length := by rw [tabCells_length i hi]; omega
          refine tw_reg_end fun K hK => ?_
          simp only [List.toList_toArray, List.append_eq, List.cons_append, List.nil_append]
          repeat (first | (first | with_reducible refine twL_go fun Cw cw => ?_ | with_reducible refine twL_yes rfl fun Cw cw => ?_); simp only [go_sem, hlen, h1, h3]; (first | refine cw _ _ ?_ | refine Or.inl (cw _ _ ?_)); clear cw Cw; simp only [tput, List.set_cons_zero, List.set_cons_succ] | (with_reducible refine twL_no _ rfl rfl ?_); simp only [tput, List.set_cons_zero, List.set_cons_succ])
          refine twL_nil.2 (hK _ _ ?_); clear hK K
          refine hK1 _ _ ?_
          refine tw_reg_end fun K hK => ?_
          simp only [List.toList_toArray, List.append_eq, List.cons_append, List.nil_append]
          repeat (first | (first | with_reducible refine twL_go fun Cw cw => ?_ | with_reducible refine twL_yes rfl fun Cw cw => ?_); simp only [go_sem]; (first | refine cw _ _ ?_ | refine Or.inl (cw _ _ ?_)); clear cw Cw; simp only [tput, List.set_cons_zero, List.set_cons_succ] | (with_reducible refine twL_no _ rfl rfl ?_); simp only [tput, List.set_cons_zero, List.set_cons_succ])
          refine twL_nil.2 (hK _ _ ?_); clear hK K
          refine ⟨256 - (i + 1), by omega, i + 1, _, _, _, _, _, _, _, _, _, _, _, _, _, _, _, _, _, _, _, _, _, _, _, _, _, _, rfl, by rw [wrap64_of (by omega) (by omega)]; omega, rfl, by omega, ?_⟩
          rw [← tabCells_step i (by omega)]
          simp [splice, tabInt, hc]
    · refine tw_exit_seq ?_
      simp only [decide_eq_false_iff_not] at h
      obtain rfl : i = 256 := by omega
      refine hK _ _ ?_
      first | with_reducible refine tw_reg_seq fun K hK => ?_ | (refine tw_seq_assoc ?_; with_reducible refine tw_reg_seq fun K hK => ?_)
      simp only [List.toList_toArray, List.append_eq, List.cons_append, List.nil_append]
      repeat (first | (first | with_reducible refine twL_go fun Cw cw => ?_ | with_reducible refine twL_yes rfl fun Cw cw => ?_); simp only [go_sem]; (first | refine cw _ _ ?_ | refine Or.inl (cw _ _ ?_)); clear cw Cw; simp only [tput, List.set_cons_zero, List.set_cons_succ] | (with_reducible refine twL_no _ rfl rfl ?_); simp only [tput, List.set_cons_zero, List.set_cons_succ])
      refine twL_nil.2 (hK _ _ ?_); clear hK K
      simp only [tw, TX.inBlock, TX.then, tpost, tresults, Tryz.f332, List.toList_toArray, tresultL, tresult1, ev, List.getElem?_cons_zero, List.getElem?_cons_succ, Option.map_some, Option.bind_some]
      simp

/- sums -/
theorem wrap_range (k : IntKind) (hk : k.signed = false) (n : Int) : 0 ≤ k.wrap n ∧ k.wrap n < 2 ^ k.bits := by
  unfold IntKind.wrap
  rw [hk]
  simp only [Bool.false_and, Bool.false_eq_true, if_false]
  have : (0 : Int) < 2 ^ k.bits := by cases k <;> simp [IntKind.bits]
  exact ⟨Int.emod_nonneg _ (by omega), Int.emod_lt_of_pos _ this⟩

theorem ixor_u8 (a b : Int) : 0 ≤ ixor .u8 a b ∧ ixor .u8 a b < 256 := wrap_range .u8 rfl _
theorem ixor_u32 (a b : Int) : 0 ≤ ixor .u32 a b ∧ ixor .u32 a b < 4294967296 := wrap_range .u32 rfl _

/-- A byte is taken, by the table. -/
def stepInt (c : Int) (b : UInt8) : Int := ixor .u32 (ishr .u32 c 8) (shiftN 8 (ixor .u8 (IntKind.u8.wrap c) b.toNat))
def goFold (c : Int) (bs : List UInt8) : Int := bs.foldl stepInt c
theorem goFold_append (c : Int) (a b : List UInt8) : goFold c (a ++ b) = goFold (goFold c a) b := List.foldl_append

theorem tabCells_get (i : Nat) (h : i < 256) : (tabCells 256)[i]? = some (tabInt i) := by
  unfold tabCells
  rw [List.getElem?_append_left (by simpa using h), List.getElem?_map, List.getElem?_range h]
  rfl

theorem byteTVs_get (s : ByteArray) (i : Nat) (h : i < s.data.toList.length) : (byteTVs s)[i]? = some (.int .u8 s.data.toList[i].toNat) := by
  unfold byteTVs
  rw [List.getElem?_map, List.getElem?_eq_getElem h]
  rfl

theorem byteTVs_length (s : ByteArray) : (byteTVs s).length = s.size := by
  unfold byteTVs
  simp
theorem data_length (s : ByteArray) : s.data.toList.length = s.size := by simp

theorem go_walk (c : Int) (s : ByteArray) (σ : TS) (l : Nat) (hl : σ[l]? = some (.cells (tabCells 256))) (hs : s.size ≤ 9223372036854775806) :
    TCalls Tryz.prog 333 [.ptr l 0, .int .u32 c, .str s] σ fun r σ' => r = .int .u32 (goFold c s.data.toList) ∧ σ' = σ := by
  refine tcalls_of [] Tryz.func333 (by kernel_rfl) rfl ?_
  show tw _ _ _ _ ([some _, some _, some _] ++ List.replicate 29 none) _
  simp only [List.replicate, List.cons_append, List.nil_append]
  first | with_reducible refine tw_reg_seq fun K hK => ?_ | (refine tw_seq_assoc ?_; with_reducible refine tw_reg_seq fun K hK => ?_)
  simp only [List.toList_toArray, List.append_eq, List.cons_append, List.nil_append]
  repeat (first | (first | with_reducible refine twL_go fun Cw cw => ?_ | with_reducible refine twL_yes rfl fun Cw cw => ?_); simp only [go_sem]; (first | refine cw _ _ ?_ | refine Or.inl (cw _ _ ?_)); clear cw Cw; simp only [tput, List.set_cons_zero, List.set_cons_succ] | (with_reducible refine twL_no _ rfl rfl ?_); simp only [tput, List.set_cons_zero, List.set_cons_succ])
  refine twL_nil.2 (hK _ _ ?_); clear hK K
  refine tw_seq_assoc ?_
  first | with_reducible refine tw_reg_seq fun K hK => ?_ | (refine tw_seq_assoc ?_; with_reducible refine tw_reg_seq fun K hK => ?_)
  simp only [List.toList_toArray, List.append_eq, List.cons_append, List.nil_append]
  repeat (first | (first | with_reducible refine twL_go fun Cw cw => ?_ | with_reducible refine twL_yes rfl fun Cw cw => ?_); simp only [go_sem]; (first | refine cw _ _ ?_ | refine Or.inl (cw _ _ ?_)); clear cw Cw; simp only [tput, List.set_cons_zero, List.set_cons_succ] | (with_reducible refine twL_no _ rfl rfl ?_); simp only [tput, List.set_cons_zero, List.set_cons_succ])
  refine twL_nil.2 (hK _ _ ?_); clear hK K
  refine tw_cond_seq rfl (fun h => by cases h) (fun h => ?_)
  refine tw_skip_seq ?_
  refine tw_seq_assoc ?_
  first | with_reducible refine tw_reg_seq fun K hK => ?_ | (refine tw_seq_assoc ?_; with_reducible refine tw_reg_seq fun K hK => ?_)
  simp only [List.toList_toArray, List.append_eq, List.cons_append, List.nil_append]
  repeat (first | (first | with_reducible refine twL_go fun Cw cw => ?_ | with_reducible refine twL_yes rfl fun Cw cw => ?_); simp only [go_sem]; (first | refine cw _ _ ?_ | refine Or.inl (cw _ _ ?_)); clear cw Cw; simp only [tput, List.set_cons_zero, List.set_cons_succ] | (with_reducible refine twL_no _ rfl rfl ?_); simp only [tput, List.set_cons_zero, List.set_cons_succ])
  refine twL_nil.2 (hK _ _ ?_); clear hK K
  refine tw_block_seq fun K hK => ?_
  refine tw_loop (fun n m s' => ∃ (i : Nat) (iz c' : Int) (x2 x3 x4 x5 x6 x7 x8 x9 x10 x11 x12 x16 x17 x18 x19 x20 x21 x22 x23 x24 x25 x26 x27 x28 x29 x30 x31 : Option TV), m = [some (.ptr l 0), some (.int .u32 c'), x2, x3, x4, x5, x6, x7, x8, x9, x10, x11, x12, some (.sl none s.size (byteTVs s)), some (.int .i64 s.size), some (.int .i64 iz), x16, x17, x18, x19, x20, x21, x22, x23, x24, x25, x26, x27, x28, x29, x30, x31] ∧ iz = i ∧ c' = goFold c (s.data.toList.take i) ∧ n = s.size - i ∧ i ≤ s.size ∧ s' = σ) (n := s.size) ?_ ?_
  · exact ⟨0, _, _, _, _, _, _, _, _, _, _, _, _, _, _, _, _, _, _, _, _, _, _, _, _, _, _, _, _, _, rfl, rfl, rfl, rfl, by omega, rfl⟩
  · rintro n m s' ⟨i, _, c', x2, x3, x4, x5, x6, x7, x8, x9, x10, x11, x12, x16, x17, x18, x19, x20, x21, x22, x23, x24, x25, x26, x27, x28, x29, x30, x31, rfl, rfl, hc, rfl, hi, rfl⟩
    first | with_reducible refine tw_reg_seq fun K hK => ?_ | (refine tw_seq_assoc ?_; with_reducible refine tw_reg_seq fun K hK => ?_)
    simp only [List.toList_toArray, List.append_eq, List.cons_append, List.nil_append]
    repeat (first | (first | with_reducible refine twL_go fun Cw cw => ?_ | with_reducible refine twL_yes rfl fun Cw cw => ?_); simp only [go_sem]; (first | refine cw _ _ ?_ | refine Or.inl (cw _ _ ?_)); clear cw Cw; simp only [tput, List.set_cons_zero, List.set_cons_succ] | (with_reducible refine twL_no _ rfl rfl ?_); simp only [tput, List.set_cons_zero, List.set_cons_succ])
    refine twL_nil.2 (hK _ _ ?_); clear hK K
    refine tw_cond_seq rfl (fun h => ?_) (fun h => ?_)
    · refine tw_skip_seq ?_
      simp only [decide_eq_true_eq] at h
      have hlt : i < s.data.toList.length := by rw [data_length]; omega
      have h0 : i < (byteTVs s).length := by rw [byteTVs_length]; omega
      have hb : (List.drop i (byteTVs s))[0]? = some (.int .u8 s.data.toList[i].toNat) := by
        rw [List.getElem?_drop]
        simpa using byteTVs_get s i hlt
      refine tw_block_seq fun K1 hK1 => ?_
      first | with_reducible refine tw_reg_seq fun K hK => ?_ | (refine tw_seq_assoc ?_; with_reducible refine tw_reg_seq fun K hK => ?_)
      simp only [List.toList_toArray, List.append_eq, List.cons_append, List.nil_append]
      repeat (first | (first | with_reducible refine twL_go fun Cw cw => ?_ | with_reducible refine twL_yes rfl fun Cw cw => ?_); simp only [go_sem, h, h0, hb]; (first | refine cw _ _ ?_ | refine Or.inl (cw _ _ ?_)); clear cw Cw; simp only [tput, List.set_cons_zero, List.set_cons_succ] | (with_reducible refine twL_no _ rfl rfl ?_); simp only [tput, List.set_cons_zero, List.set_cons_succ])
      refine twL_nil.2 (hK _ _ ?_); clear hK K
      have hx := ixor_u8 (IntKind.u8.wrap c') s.data.toList[i].toNat
      have h1 : 0 ≤ ixor .u8 (IntKind.u8.wrap c') s.data.toList[i].toNat ∧ ixor .u8 (IntKind.u8.wrap c') s.data.toList[i].toNat < (256 : Nat) := ⟨hx.1, by omega⟩
      have ht : (List.drop (ixor .u8 (IntKind.u8.wrap c') s.data.toList[i].toNat).toNat (tabCells 256))[0]? = some (.int .u32 (shiftN 8 (ixor .u8 (IntKind.u8.wrap c') s.data.toList[i].toNat))) := by
        rw [List.getElem?_drop, tabCells_get _ (by omega)]
        simp only [tabInt]
        congr 3
      refine tw_reg_end fun K hK => ?_
      simp only [List.toList_toArray, List.append_eq, List.cons_append, List.nil_append]
      repeat (first | (first | with_reducible refine twL_go fun Cw cw => ?_ | with_reducible refine twL_yes rfl fun Cw cw => ?_); simp only [go_sem, h1, ht, hl]; (first | refine cw _ _ ?_ | refine Or.inl (cw _ _ ?_)); clear cw Cw; simp only [tput, List.set_cons_zero, List.set_cons_succ] | (with_reducible refine twL_no _ rfl rfl ?_); simp only [tput, List.set_cons_zero, List.set_cons_succ])
      refine twL_nil.2 (hK _ _ ?_); clear hK K
      refine hK1 _ _ ?_
      refine tw_reg_end fun K hK => ?_
      simp only [List.toList_toArray, List.append_eq, List.cons_append, List.nil_append]
      repeat (first | (first | with_reducible refine twL_go fun Cw cw => ?_ | with_reducible refine twL_yes rfl fun Cw cw => ?_); simp only [go_sem]; (first | refine cw _ _ ?_ | refine Or.inl (cw _ _ ?_)); clear cw Cw; simp only [tput, List.set_cons_zero, List.set_cons_succ] | (with_reducible refine twL_no _ rfl rfl ?_); simp only [tput, List.set_cons_zero, List.set_cons_succ])
      refine twL_nil.2 (hK _ _ ?_); clear hK K
      refine ⟨s.size - (i + 1), by omega, i + 1, _, _, _, _, _, _, _, _, _, _, _, _, _, _, _, _, _, _, _, _, _, _, _, _, _, _, _, _, _, rfl, by rw [wrap64_of (by omega) (by omega)]; omega, ?_, rfl, by omega, rfl⟩
      rw [List.take_succ_eq_append_getElem hlt, goFold_append, ← hc]
      rfl
    · refine tw_exit_seq ?_
      simp only [decide_eq_false_iff_not] at h
      obtain rfl : i = s.size := by omega
      refine hK _ _ ?_
      first | with_reducible refine tw_reg_seq fun K hK => ?_ | (refine tw_seq_assoc ?_; with_reducible refine tw_reg_seq fun K hK => ?_)
      simp only [List.toList_toArray, List.append_eq, List.cons_append, List.nil_append]
      repeat (first | (first | with_reducible refine twL_go fun Cw cw => ?_ | with_reducible refine twL_yes rfl fun Cw cw => ?_); simp only [go_sem]; (first | refine cw _ _ ?_ | refine Or.inl (cw _ _ ?_)); clear cw Cw; simp only [tput, List.set_cons_zero, List.set_cons_succ] | (with_reducible refine twL_no _ rfl rfl ?_); simp only [tput, List.set_cons_zero, List.set_cons_succ])
      refine twL_nil.2 (hK _ _ ?_); clear hK K
      simp only [tw, TX.inBlock, TX.then, tpost, tresults, Tryz.f333, List.toList_toArray, tresultL, tresult1, ev, List.getElem?_cons_zero, List.getElem?_cons_succ, Option.map_some, Option.bind_some]
      rw [hc, ← data_length, List.take_length]
      simp

end Go.Proofs.YtkmcbaihemaoeaaGreat

/- The crc seat: the sums over bits, and the functions that stand on Make and Go. -/
set_option linter.unusedVariables false
set_option linter.unusedSimpArgs false
set_option maxRecDepth 10000
namespace Go.Proofs.YtkmcbaihemaoeaaGreat
open Go.TM

theorem shiftInt_n32 (x : BitVec 32) : shiftInt (n32 x) = n32 (shiftB x) := by
  have h1 : (1 : Int) = n32 1#32 := rfl
  have hp : (3988292384 : Int) = n32 0xEDB88320#32 := rfl
  unfold shiftInt
  rw [show ishr .u32 (n32 x) 1 = n32 (x >>> 1) from ishr_n32 x 1 (by omega), h1, iand_n32, hp]
  unfold shiftB
  have hx : x &&& 1#32 = if x.getLsbD 0 then 1#32 else 0#32 := by
    ext i hi
    cases h0 : x.getLsbD 0 <;> rw [BitVec.getElem_and, BitVec.getElem_one] <;> (by_cases hi0 : i = 0)
    · subst hi0; rw [← BitVec.getLsbD_eq_getElem, h0]; simp
    · simp [hi0]
    · subst hi0; rw [← BitVec.getLsbD_eq_getElem, h0]; simp
    · simp [hi0]
  rw [hx]
  cases h0 : x.getLsbD 0
  · rw [if_neg (by simp), if_neg (by simp)]
    rw [show IntKind.u32.wrap (0 - n32 0#32) = n32 0#32 from rfl, iand_n32, ixor_n32]
    rw [BitVec.and_zero]
  · rw [if_pos rfl, if_pos rfl]
    rw [show IntKind.u32.wrap (0 - n32 1#32) = n32 0xFFFFFFFF#32 from rfl, iand_n32, ixor_n32]
    rw [show (0xEDB88320#32 &&& 0xFFFFFFFF#32) = 0xEDB88320#32 from rfl]

theorem shiftN_n32 (n : Nat) : ∀ x, shiftN n (n32 x) = n32 (shiftBN n x) := by
  induction n with
  | zero => intro x; rfl
  | succ n ih => intro x; rw [shiftN, shiftInt_n32, ih]; rfl

theorem wrapU8_n32 (x : BitVec 32) : IntKind.u8.wrap (n32 x) = ((x.setWidth 8).toNat : Int) := by
  unfold IntKind.wrap
  rw [BitVec.toNat_setWidth]
  simp [IntKind.signed, IntKind.bits]

theorem ixor_u8_bits (x y : BitVec 8) : ixor .u8 (x.toNat : Int) (y.toNat : Int) = ((x ^^^ y).toNat : Int) := by
  unfold ixor
  show IntKind.u8.wrap ((BitVec.ofInt 8 (x.toNat : Int) ^^^ BitVec.ofInt 8 (y.toNat : Int)).toNat : Int) = _
  rw [BitVec.ofInt_natCast, BitVec.ofNat_toNat, BitVec.setWidth_eq, BitVec.ofInt_natCast, BitVec.ofNat_toNat, BitVec.setWidth_eq]
  exact wrapU8_of (by omega) (by have := (x ^^^ y).isLt; omega)

theorem byte_n32 (x : BitVec 8) : (x.toNat : Int) = n32 (x.setWidth 32) := by
  show (x.toNat : Int) = ((x.setWidth 32).toNat : Int)
  rw [BitVec.toNat_setWidth, Nat.mod_eq_of_lt (by have := x.isLt; omega)]

theorem stepInt_n32 (c : BitVec 32) (b : UInt8) : stepInt (n32 c) b = n32 (takeB c b) := by
  unfold stepInt
  rw [wrapU8_n32, show ((b.toNat : Nat) : Int) = (b.toBitVec.toNat : Int) from rfl, ixor_u8_bits, byte_n32, shiftN_n32, show ishr .u32 (n32 c) 8 = n32 (c >>> 8) from ishr_n32 c 8 (by omega), ixor_n32, takeB_table]

theorem goFold_n32 (bs : List UInt8) : ∀ c, goFold (n32 c) bs = n32 (foldB c bs) := by
  induction bs with
  | nil => intro c; rfl
  | cons b bs ih => intro c; show goFold (stepInt (n32 c) b) bs = _; rw [stepInt_n32, ih]; rfl

def Grew (σ σ' : TS) : Prop := ∃ e, σ' = σ ++ e
theorem Grew.refl (σ : TS) : Grew σ σ := ⟨[], by simp⟩
theorem Grew.trans {a b c : TS} (h : Grew a b) (k : Grew b c) : Grew a c := by
  obtain ⟨x, rfl⟩ := h; obtain ⟨y, rfl⟩ := k; exact ⟨x ++ y, by simp⟩
theorem Grew.get {σ σ' : TS} (h : Grew σ σ') {l : Nat} {o : TObj} (e : σ[l]? = some o) : σ'[l]? = some o := by
  obtain ⟨x, rfl⟩ := h
  rw [List.getElem?_append_left (List.getElem?_eq_some_iff.1 e).1]; exact e

/-- The sum of texts. -/
def sumB (bs : List UInt8) : BitVec 32 := 0xFFFFFFFF#32 ^^^ foldB 0xFFFFFFFF#32 bs
def allBytes (ls : List ByteArray) : List UInt8 := ls.flatMap fun s => s.data.toList

theorem allBytes_step {ls : List ByteArray} {i : Nat} (h : i < ls.length) : allBytes (ls.take (i + 1)) = allBytes (ls.take i) ++ ls[i].data.toList := by
  unfold allBytes
  rw [List.take_succ_eq_append_getElem h, List.flatMap_append]
  simp only [List.flatMap_cons, List.flatMap_nil, List.append_nil]
theorem strTVs_get (ls : List ByteArray) (i : Nat) (h : i < ls.length) : (ls.map TV.str)[i]? = some (.str ls[i]) := by
  rw [List.getElem?_map, List.getElem?_eq_getElem h]; rfl

theorem sum_walk (ls : List ByteArray) (σ : TS) (hs : ∀ s ∈ ls, s.size ≤ 9223372036854775806) (hn : ls.length ≤ 9223372036854775806) :
    TCalls Tryz.prog 271 [.sl none ls.length (ls.map .str)] σ fun r σ' => r = .int .u32 (n32 (sumB (allBytes ls))) ∧ Grew σ σ' := by
  refine tcalls_of [] Tryz.func271 (by kernel_rfl) rfl ?_
  show tw _ _ _ _ ([some _] ++ List.replicate 20 none) _
  simp only [List.replicate, List.cons_append, List.nil_append]
  first | with_reducible refine tw_reg_seq fun K hK => ?_ | (refine tw_seq_assoc ?_; with_reducible refine tw_reg_seq fun K hK => ?_)
  simp only [List.toList_toArray, List.append_eq, List.cons_append, List.nil_append]
  repeat (first | (first | with_reducible refine twL_go fun Cw cw => ?_ | with_reducible refine twL_yes rfl fun Cw cw => ?_); simp only [go_sem]; (first | refine cw _ _ ?_ | refine Or.inl (cw _ _ ?_)); clear cw Cw; simp only [tput, List.set_cons_zero, List.set_cons_succ] | (with_reducible refine twL_no _ rfl rfl ?_); simp only [tput, List.set_cons_zero, List.set_cons_succ])
  refine twL_nil.2 (hK _ _ ?_); clear hK K
  first | with_reducible refine tw_reg_seq fun K hK => ?_ | (refine tw_seq_assoc ?_; with_reducible refine tw_reg_seq fun K hK => ?_)
  simp only [List.toList_toArray, List.append_eq, List.cons_append, List.nil_append]
  repeat (first | (first | with_reducible refine twL_go fun Cw cw => ?_ | with_reducible refine twL_yes rfl fun Cw cw => ?_); simp only [go_sem]; (first | refine cw _ _ ?_ | refine Or.inl (cw _ _ ?_)); clear cw Cw; simp only [tput, List.set_cons_zero, List.set_cons_succ] | (with_reducible refine twL_no _ rfl rfl ?_); simp only [tput, List.set_cons_zero, List.set_cons_succ])
  first | with_reducible refine twL_go fun Cw cw => ?_ | with_reducible refine twL_yes rfl fun Cw cw => ?_
  simp only [go_sem]
  refine (make_walk _).mono ?_
  rintro _ _ ⟨rfl, rfl⟩
  refine cw _ _ ?_; clear cw Cw; simp only [tput, List.set_cons_zero, List.set_cons_succ]
  repeat (first | (first | with_reducible refine twL_go fun Cw cw => ?_ | with_reducible refine twL_yes rfl fun Cw cw => ?_); simp only [go_sem]; (first | refine cw _ _ ?_ | refine Or.inl (cw _ _ ?_)); clear cw Cw; simp only [tput, List.set_cons_zero, List.set_cons_succ] | (with_reducible refine twL_no _ rfl rfl ?_); simp only [tput, List.set_cons_zero, List.set_cons_succ])
  refine twL_nil.2 (hK _ _ ?_); clear hK K
  refine tw_seq_assoc ?_
  first | with_reducible refine tw_reg_seq fun K hK => ?_ | (refine tw_seq_assoc ?_; with_reducible refine tw_reg_seq fun K hK => ?_)
  simp only [List.toList_toArray, List.append_eq, List.cons_append, List.nil_append]
  repeat (first | (first | with_reducible refine twL_go fun Cw cw => ?_ | with_reducible refine twL_yes rfl fun Cw cw => ?_); simp only [go_sem]; (first | refine cw _ _ ?_ | refine Or.inl (cw _ _ ?_)); clear cw Cw; simp only [tput, List.set_cons_zero, List.set_cons_succ] | (with_reducible refine twL_no _ rfl rfl ?_); simp only [tput, List.set_cons_zero, List.set_cons_succ])
  refine twL_nil.2 (hK _ _ ?_); clear hK K
  refine tw_block_seq fun K hK => ?_
  refine tw_loop (fun n m s => ∃ (i : Nat) (iz c : Int) (x1 x5 x6 x7 x11 x12 x13 x14 x15 x16 x17 x18 x19 x20 : Option TV), m = [some (.sl none ls.length (ls.map .str)), x1, some (.int .u32 0), some (.ptr σ.length 0), some (.int .u32 c), x5, x6, x7, some (.sl none ls.length (ls.map .str)), some (.int .i64 ls.length), some (.int .i64 iz), x11, x12, x13, x14, x15, x16, x17, x18, x19, x20] ∧ iz = i ∧ c = n32 (foldB 0xFFFFFFFF#32 (allBytes (ls.take i))) ∧ n = ls.length - i ∧ i ≤ ls.length ∧ s = σ ++ [.cells (tabCells 256)]) (n := ls.length) ?_ ?_
  · exact ⟨0, _, _, _, _, _, _, _, _, _, _, _, _, _, _, _, _, rfl, rfl, rfl, rfl, by omega, rfl⟩
  · rintro n m s ⟨i, _, c, x1, x5, x6, x7, x11, x12, x13, x14, x15, x16, x17, x18, x19, x20, rfl, rfl, hc, rfl, hi, rfl⟩
    first | with_reducible refine tw_reg_seq fun K hK => ?_ | (refine tw_seq_assoc ?_; with_reducible refine tw_reg_seq fun K hK => ?_)
    simp only [List.toList_toArray, List.append_eq, List.cons_append, List.nil_append]
    repeat (first | (first | with_reducible refine twL_go fun Cw cw => ?_ | with_reducible refine twL_yes rfl fun Cw cw => ?_); simp only [go_sem]; (first | refine cw _ _ ?_ | refine Or.inl (cw _ _ ?_)); clear cw Cw; simp only [tput, List.set_cons_zero, List.set_cons_succ] | (with_reducible refine twL_no _ rfl rfl ?_); simp only [tput, List.set_cons_zero, List.set_cons_succ])
    refine twL_nil.2 (hK _ _ ?_); clear hK K
    refine tw_cond_seq rfl (fun h => ?_) (fun h => ?_)
    · refine tw_skip_seq ?_
      simp only [decide_eq_true_eq] at h
      have hlt : i < ls.length := by omega
      have h0 : i < (ls.map TV.str).length := by rw [List.length_map]; omega
      have hb : (List.drop i (ls.map TV.str))[0]? = some (.str ls[i]) := by
        rw [List.getElem?_drop, ← strTVs_get ls i hlt]
        congr 1
      refine tw_block_seq fun K1 hK1 => ?_
      first | with_reducible refine tw_reg_seq fun K hK => ?_ | (refine tw_seq_assoc ?_; with_reducible refine tw_reg_seq fun K hK => ?_)
      simp only [List.toList_toArray, List.append_eq, List.cons_append, List.nil_append]
      repeat (first | (first | with_reducible refine twL_go fun Cw cw => ?_ | with_reducible refine twL_yes rfl fun Cw cw => ?_); simp only [go_sem, h, h0, hb]; (first | refine cw _ _ ?_ | refine Or.inl (cw _ _ ?_)); clear cw Cw; simp only [tput, List.set_cons_zero, List.set_cons_succ] | (with_reducible refine twL_no _ rfl rfl ?_); simp only [tput, List.set_cons_zero, List.set_cons_succ])
      refine twL_nil.2 (hK _ _ ?_); clear hK K
      refine tw_reg_end fun K hK => ?_
      simp only [List.toList_toArray, List.append_eq, List.cons_append, List.nil_append]
      repeat (first | (first | with_reducible refine twL_go fun Cw cw => ?_ | with_reducible refine twL_yes rfl fun Cw cw => ?_); simp only [go_sem]; (first | refine cw _ _ ?_ | refine Or.inl (cw _ _ ?_)); clear cw Cw; simp only [tput, List.set_cons_zero, List.set_cons_succ] | (with_reducible refine twL_no _ rfl rfl ?_); simp only [tput, List.set_cons_zero, List.set_cons_succ])
      first | with_reducible refine twL_go fun Cw cw => ?_ | with_reducible refine twL_yes rfl fun Cw cw => ?_
      simp only [go_sem]
      refine (go_walk c ls[i] _ σ.length (by simp) (hs _ (List.getElem_mem _))).mono ?_
      rintro _ _ ⟨rfl, rfl⟩
      refine cw _ _ ?_; clear cw Cw; simp only [tput, List.set_cons_zero, List.set_cons_succ]
      repeat (first | (first | with_reducible refine twL_go fun Cw cw => ?_ | with_reducible refine twL_yes rfl fun Cw cw => ?_); simp only [go_sem]; (first | refine cw _ _ ?_ | refine Or.inl (cw _ _ ?_)); clear cw Cw; simp only [tput, List.set_cons_zero, List.set_cons_succ] | (with_reducible refine twL_no _ rfl rfl ?_); simp only [tput, List.set_cons_zero, List.set_cons_succ])
      refine twL_nil.2 (hK _ _ ?_); clear hK K
      refine hK1 _ _ ?_
      refine tw_reg_end fun K hK => ?_
      simp only [List.toList_toArray, List.append_eq, List.cons_append, List.nil_append]
      repeat (first | (first | with_reducible refine twL_go fun Cw cw => ?_ | with_reducible refine twL_yes rfl fun Cw cw => ?_); simp only [go_sem]; (first | refine cw _ _ ?_ | refine Or.inl (cw _ _ ?_)); clear cw Cw; simp only [tput, List.set_cons_zero, List.set_cons_succ] | (with_reducible refine twL_no _ rfl rfl ?_); simp only [tput, List.set_cons_zero, List.set_cons_succ])
      refine twL_nil.2 (hK _ _ ?_); clear hK K
      refine ⟨ls.length - (i + 1), by omega, i + 1, _, _, _, _, _, _, _, _, _, _, _, _, _, _, _, _, rfl, by rw [wrap64_of (by omega) (by omega)]; omega, ?_, rfl, by omega, rfl⟩
      rw [hc, goFold_n32, ← foldB_append, allBytes_step hlt]
    · refine tw_exit_seq ?_
      simp only [decide_eq_false_iff_not] at h
      obtain rfl : i = ls.length := by omega
      refine hK _ _ ?_
      first | with_reducible refine tw_reg_seq fun K hK => ?_ | (refine tw_seq_assoc ?_; with_reducible refine tw_reg_seq fun K hK => ?_)
      simp only [List.toList_toArray, List.append_eq, List.cons_append, List.nil_append]
      repeat (first | (first | with_reducible refine twL_go fun Cw cw => ?_ | with_reducible refine twL_yes rfl fun Cw cw => ?_); simp only [go_sem]; (first | refine cw _ _ ?_ | refine Or.inl (cw _ _ ?_)); clear cw Cw; simp only [tput, List.set_cons_zero, List.set_cons_succ] | (with_reducible refine twL_no _ rfl rfl ?_); simp only [tput, List.set_cons_zero, List.set_cons_succ])
      refine twL_nil.2 (hK _ _ ?_); clear hK K
      simp only [tw, TX.inBlock, TX.then, tpost, tresults, Tryz.f271, List.toList_toArray, tresultL, tresult1, ev, List.getElem?_cons_zero, List.getElem?_cons_succ, Option.map_some, Option.bind_some]
      rw [hc, List.take_length]
      refine ⟨?_, _, rfl⟩
      show TV.int .u32 (ixor .u32 (n32 0xFFFFFFFF#32) _) = _
      rw [ixor_n32]
      rfl

/-- A sum's bytes, the lowest first. -/
def sumByte (x : BitVec 32) (i : Nat) : UInt8 := UInt8.ofBitVec ((x >>> (8 * i)).setWidth 8)
def sealL (bs : List UInt8) : List UInt8 := bs ++ (List.range 4).map (sumByte (sumB bs))
def sealB (s : ByteArray) : ByteArray := ⟨(sealL s.data.toList).toArray⟩

theorem sumByte_int (x : BitVec 32) (i : Nat) (h : i < 4) : IntKind.u8.wrap (ishr .u32 (n32 x) (IntKind.u64.wrap (IntKind.i64.wrap (8 * (i : Int))))) = ((sumByte x i).toNat : Int) := by
  rw [wrap64_of (by omega) (by omega), wrapU64_of (by omega) (by omega), show (8 * (i : Int)) = ((8 * i : Nat) : Int) by omega, ishr_n32 _ _ (by omega), wrapU8_n32]
  rfl

theorem tbytes_map (bs : List UInt8) : tbytes (bs.map fun b => .int .u8 b.toNat) = some bs := by
  induction bs with
  | nil => rfl
  | cons b bs ih =>
    rw [List.map_cons, tbytes, ih]
    simp

theorem seal_walk (s : ByteArray) (σ : TS) (hs : s.size ≤ 100000) :
    TCalls Tryz.prog 186 [.str s] σ fun r σ' => r = .str (sealB s) ∧ Grew σ σ' := by
  refine tcalls_of [7] Tryz.func186 (by kernel_rfl) rfl ?_
  show tw _ _ _ _ ([some _] ++ List.replicate 25 none) _
  simp only [List.replicate, List.cons_append, List.nil_append]
  first | with_reducible refine tw_reg_seq fun K hK => ?_ | (refine tw_seq_assoc ?_; with_reducible refine tw_reg_seq fun K hK => ?_)
  simp only [List.toList_toArray, List.append_eq, List.cons_append, List.nil_append]
  repeat (first | (first | with_reducible refine twL_go fun Cw cw => ?_ | with_reducible refine twL_yes rfl fun Cw cw => ?_); simp only [go_sem]; (first | refine cw _ _ ?_ | refine Or.inl (cw _ _ ?_)); clear cw Cw; simp only [tput, List.set_cons_zero, List.set_cons_succ] | (with_reducible refine twL_no _ rfl rfl ?_); simp only [tput, List.set_cons_zero, List.set_cons_succ])
  refine twL_nil.2 (hK _ _ ?_); clear hK K
  first | with_reducible refine tw_reg_seq fun K hK => ?_ | (refine tw_seq_assoc ?_; with_reducible refine tw_reg_seq fun K hK => ?_)
  simp only [List.toList_toArray, List.append_eq, List.cons_append, List.nil_append]
  repeat (first | (first | with_reducible refine twL_go fun Cw cw => ?_ | with_reducible refine twL_yes rfl fun Cw cw => ?_); simp only [go_sem]; (first | refine cw _ _ ?_ | refine Or.inl (cw _ _ ?_)); clear cw Cw; simp only [tput, List.set_cons_zero, List.set_cons_succ] | (with_reducible refine twL_no _ rfl rfl ?_); simp only [tput, List.set_cons_zero, List.set_cons_succ])
  refine twL_nil.2 (hK _ _ ?_); clear hK K
  refine tw_seq_assoc ?_
  first | with_reducible refine tw_reg_seq fun K hK => ?_ | (refine tw_seq_assoc ?_; with_reducible refine tw_reg_seq fun K hK => ?_)
  simp only [List.toList_toArray, List.append_eq, List.cons_append, List.nil_append]
  repeat (first | (first | with_reducible refine twL_go fun Cw cw => ?_ | with_reducible refine twL_yes rfl fun Cw cw => ?_); simp only [go_sem, splice]; (first | refine cw _ _ ?_ | refine Or.inl (cw _ _ ?_)); clear cw Cw; simp only [tput, List.set_cons_zero, List.set_cons_succ] | (with_reducible refine twL_no _ rfl rfl ?_); simp only [tput, List.set_cons_zero, List.set_cons_succ])
  first | with_reducible refine twL_go fun Cw cw => ?_ | with_reducible refine twL_yes rfl fun Cw cw => ?_
  simp only [go_sem, splice]
  refine (sum_walk [s] _ (by simp; omega) (by simp)).mono ?_
  rintro _ _ ⟨rfl, e, rfl⟩
  refine cw _ _ ?_; clear cw Cw; simp only [tput, List.set_cons_zero, List.set_cons_succ]
  repeat (first | (first | with_reducible refine twL_go fun Cw cw => ?_ | with_reducible refine twL_yes rfl fun Cw cw => ?_); simp only [go_sem]; (first | refine cw _ _ ?_ | refine Or.inl (cw _ _ ?_)); clear cw Cw; simp only [tput, List.set_cons_zero, List.set_cons_succ] | (with_reducible refine twL_no _ rfl rfl ?_); simp only [tput, List.set_cons_zero, List.set_cons_succ])
  refine twL_nil.2 (hK _ _ ?_); clear hK K
  have hb : allBytes [s] = s.data.toList := by simp [allBytes]
  rw [hb]
  refine tw_block_seq fun K hK => ?_
  refine tw_loop (fun n m s' => ∃ (i : Nat) (iz : Int) (cs : List TV) (x1 x6 x7 x8 x9 x10 x11 x12 x13 x14 x15 x16 x17 x18 x19 x20 x21 x22 x23 x24 x25 : Option TV), m = [some (.str s), x1, some (.str ⟨#[]⟩), some (.sl (some (σ.length, s.size + i)) (s.size + i) cs), some (.int .u32 (n32 (sumB s.data.toList))), some (.int .i64 iz), x6, x7, x8, x9, x10, x11, x12, x13, x14, x15, x16, x17, x18, x19, x20, x21, x22, x23, x24, x25] ∧ iz = i ∧ cs = (s.data.toList ++ (List.range i).map (sumByte (sumB s.data.toList))).map (fun b => .int .u8 b.toNat) ∧ n = 4 - i ∧ i ≤ 4 ∧ s' = σ ++ .right (s.size + i) 1 :: e) (n := 4) ?_ ?_
  · exact ⟨0, _, _, _, _, _, _, _, _, _, _, _, _, _, _, _, _, _, _, _, _, _, _, _, rfl, rfl, by simp [byteTVs], rfl, by omega, by simp⟩
  · rintro n m s' ⟨i, _, cs, x1, x6, x7, x8, x9, x10, x11, x12, x13, x14, x15, x16, x17, x18, x19, x20, x21, x22, x23, x24, x25, rfl, rfl, hc, rfl, hi, rfl⟩
    first | with_reducible refine tw_reg_seq fun K hK => ?_ | (refine tw_seq_assoc ?_; with_reducible refine tw_reg_seq fun K hK => ?_)
    simp only [List.toList_toArray, List.append_eq, List.cons_append, List.nil_append]
    repeat (first | (first | with_reducible refine twL_go fun Cw cw => ?_ | with_reducible refine twL_yes rfl fun Cw cw => ?_); simp only [go_sem]; (first | refine cw _ _ ?_ | refine Or.inl (cw _ _ ?_)); clear cw Cw; simp only [tput, List.set_cons_zero, List.set_cons_succ] | (with_reducible refine twL_no _ rfl rfl ?_); simp only [tput, List.set_cons_zero, List.set_cons_succ])
    refine twL_nil.2 (hK _ _ ?_); clear hK K
    refine tw_cond_seq rfl (fun h => ?_) (fun h => ?_)
    · refine tw_skip_seq ?_
      simp only [decide_eq_true_eq] at h
      refine tw_block_seq fun K1 hK1 => ?_
      have hl : cs.length = (s.size + i) * 1 := by rw [hc]; simp
      have hr : (σ ++ TObj.right (s.size + i) 1 :: e)[σ.length]? = some (.right (s.size + i) 1) := by simp
      have h64 : ¬ IntKind.u64.wrap (IntKind.i64.wrap (8 * (i : Int))) < 0 := by
        rw [wrap64_of (by omega) (by omega), wrapU64_of (by omega) (by omega)]
        omega
      have hz : s.size + i ≤ 140737488355327 ∧ s.size + i ≤ 9223372036854775806 := by omega
      refine tw_reg_end fun K hK => ?_
      simp only [List.toList_toArray, List.append_eq, List.cons_append, List.nil_append]
      repeat (first | (first | with_reducible refine twL_go fun Cw cw => ?_ | with_reducible refine twL_yes rfl fun Cw cw => ?_); simp only [go_sem, hl, hr, h64, hz.1, hz.2, sumByte_int _ i (by omega), splice]; (first | refine cw _ _ ?_ | refine Or.inl (cw _ _ ?_)); clear cw Cw; simp only [tput, List.set_cons_zero, List.set_cons_succ] | (with_reducible refine twL_no _ rfl rfl ?_); simp only [tput, List.set_cons_zero, List.set_cons_succ])
      refine twL_nil.2 (hK _ _ ?_); clear hK K
      refine hK1 _ _ ?_
      refine tw_reg_end fun K hK => ?_
      simp only [List.toList_toArray, List.append_eq, List.cons_append, List.nil_append]
      repeat (first | (first | with_reducible refine twL_go fun Cw cw => ?_ | with_reducible refine twL_yes rfl fun Cw cw => ?_); simp only [go_sem]; (first | refine cw _ _ ?_ | refine Or.inl (cw _ _ ?_)); clear cw Cw; simp only [tput, List.set_cons_zero, List.set_cons_succ] | (with_reducible refine twL_no _ rfl rfl ?_); simp only [tput, List.set_cons_zero, List.set_cons_succ])
      refine twL_nil.2 (hK _ _ ?_); clear hK K
      refine ⟨4 - (i + 1), by omega, i + 1, _, _, _, _, _, _, _, _, _, _, _, _, _, _, _, _, _, _, _, _, _, _, _, rfl, by rw [wrap64_of (by omega) (by omega)]; omega, ?_, rfl, by omega, by simp [Nat.add_assoc]⟩
      rw [hc, List.range_succ]
      simp
    · refine tw_exit_seq ?_
      simp only [decide_eq_false_iff_not] at h
      obtain rfl : i = 4 := by omega
      refine hK _ _ ?_
      have ht : tbytes (cs.take (s.size + 4)) = some (sealL s.data.toList) := by
        rw [List.take_of_length_le (by rw [hc]; simp), hc, tbytes_map]
        rfl
      have hl : s.size + 4 ≤ cs.length := by rw [hc]; simp
      first | with_reducible refine tw_reg_seq fun K hK => ?_ | (refine tw_seq_assoc ?_; with_reducible refine tw_reg_seq fun K hK => ?_)
      simp only [List.toList_toArray, List.append_eq, List.cons_append, List.nil_append]
      repeat (first | (first | with_reducible refine twL_go fun Cw cw => ?_ | with_reducible refine twL_yes rfl fun Cw cw => ?_); simp only [go_sem, ht, hl]; (first | refine cw _ _ ?_ | refine Or.inl (cw _ _ ?_)); clear cw Cw; simp only [tput, List.set_cons_zero, List.set_cons_succ] | (with_reducible refine twL_no _ rfl rfl ?_); simp only [tput, List.set_cons_zero, List.set_cons_succ])
      refine twL_nil.2 (hK _ _ ?_); clear hK K
      simp only [tw, TX.inBlock, TX.then, tpost, tresults, Tryz.f186, List.toList_toArray, tresultL, tresult1, ev, List.getElem?_cons_zero, List.getElem?_cons_succ, Option.map_some, Option.bind_some]
      refine ⟨?_, _, rfl⟩
      rfl

end Go.Proofs.YtkmcbaihemaoeaaGreat

/- The crc seat: Open, the document's functions, awake. -/
set_option linter.unusedVariables false
set_option linter.unusedSimpArgs false
set_option maxRecDepth 10000
namespace Go.Proofs.YtkmcbaihemaoeaaGreat
open Go.TM

theorem sealB_size (s : ByteArray) : (sealB s).size = s.size + 4 := by
  show (sealL s.data.toList).toArray.size = _
  simp [sealL]

def openB (s : ByteArray) : ByteArray × Int :=
  if s.size < 4 then (⟨#[]⟩, 10) else if sealB (s.extract 0 (s.size - 4)) = s then (s.extract 0 (s.size - 4), 0) else (⟨#[]⟩, 12)

theorem size_extract (s : ByteArray) (n : Nat) (h : n ≤ s.size) : (s.extract 0 n).size = n := by
  rw [ByteArray.size_extract]; omega

theorem open_walk (s : ByteArray) (σ : TS) (hs : s.size ≤ 100000) :
    TCalls Tryz.prog 103 [.str s] σ fun r σ' => r = .tup [.str (openB s).1, .int .i64 (openB s).2] ∧ Grew σ σ' := by
  refine tcalls_of [] Tryz.func103 (by kernel_rfl) rfl ?_
  show tw _ _ _ _ ([some _] ++ List.replicate 18 none) _
  simp only [List.replicate, List.cons_append, List.nil_append]
  by_cases h4 : s.size < 4
  · have hw : IntKind.i64.wrap ((s.size : Int) - 4) = (s.size : Int) - 4 := wrap64_of (by omega) (by omega)
    have ho : openB s = (⟨#[]⟩, 10) := by unfold openB; rw [if_pos h4]
    have hd : decide ((s.size : Int) - 4 < 0) = true := by rw [decide_eq_true_eq]; omega
    first | with_reducible refine tw_reg_seq fun K hK => ?_ | (refine tw_seq_assoc ?_; with_reducible refine tw_reg_seq fun K hK => ?_)
    simp only [List.toList_toArray, List.append_eq, List.cons_append, List.nil_append]
    repeat (first | (first | with_reducible refine twL_go fun Cw cw => ?_ | with_reducible refine twL_yes rfl fun Cw cw => ?_); simp only [go_sem]; (first | refine cw _ _ ?_ | refine Or.inl (cw _ _ ?_)); clear cw Cw; simp only [tput, List.set_cons_zero, List.set_cons_succ] | (with_reducible refine twL_no _ rfl rfl ?_); simp only [tput, List.set_cons_zero, List.set_cons_succ])
    refine twL_nil.2 (hK _ _ ?_); clear hK K
    first | with_reducible refine tw_reg_seq fun K hK => ?_ | (refine tw_seq_assoc ?_; with_reducible refine tw_reg_seq fun K hK => ?_)
    simp only [List.toList_toArray, List.append_eq, List.cons_append, List.nil_append]
    repeat (first | (first | with_reducible refine twL_go fun Cw cw => ?_ | with_reducible refine twL_yes rfl fun Cw cw => ?_); simp only [go_sem, hw]; (first | refine cw _ _ ?_ | refine Or.inl (cw _ _ ?_)); clear cw Cw; simp only [tput, List.set_cons_zero, List.set_cons_succ] | (with_reducible refine twL_no _ rfl rfl ?_); simp only [tput, List.set_cons_zero, List.set_cons_succ])
    refine twL_nil.2 (hK _ _ ?_); clear hK K
    first | with_reducible refine tw_reg_seq fun K hK => ?_ | (refine tw_seq_assoc ?_; with_reducible refine tw_reg_seq fun K hK => ?_)
    simp only [List.toList_toArray, List.append_eq, List.cons_append, List.nil_append]
    repeat (first | (first | with_reducible refine twL_go fun Cw cw => ?_ | with_reducible refine twL_yes rfl fun Cw cw => ?_); simp only [go_sem, hd]; (first | refine cw _ _ ?_ | refine Or.inl (cw _ _ ?_)); clear cw Cw; simp only [tput, List.set_cons_zero, List.set_cons_succ] | (with_reducible refine twL_no _ rfl rfl ?_); simp only [tput, List.set_cons_zero, List.set_cons_succ])
    refine twL_nil.2 (hK _ _ ?_); clear hK K
    refine tw_cond_seq rfl (fun _ => ?_) (fun h => by cases h)
    first | with_reducible refine tw_reg_seq fun K hK => ?_ | (refine tw_seq_assoc ?_; with_reducible refine tw_reg_seq fun K hK => ?_)
    simp only [List.toList_toArray, List.append_eq, List.cons_append, List.nil_append]
    repeat (first | (first | with_reducible refine twL_go fun Cw cw => ?_ | with_reducible refine twL_yes rfl fun Cw cw => ?_); simp only [go_sem]; (first | refine cw _ _ ?_ | refine Or.inl (cw _ _ ?_)); clear cw Cw; simp only [tput, List.set_cons_zero, List.set_cons_succ] | (with_reducible refine twL_no _ rfl rfl ?_); simp only [tput, List.set_cons_zero, List.set_cons_succ])
    refine twL_nil.2 (hK _ _ ?_); clear hK K
    refine tw_ret_seq ?_
    simp only [tw, TX.inBlock, TX.then, tpost, tresults, Tryz.f103, List.toList_toArray, tresultL, tresult1, ev, List.getElem?_cons_zero, List.getElem?_cons_succ, Option.map_some, Option.bind_some]
    rw [ho]
    exact ⟨rfl, Grew.refl _⟩
  · have hw : IntKind.i64.wrap ((s.size : Int) - 4) = ((s.size - 4 : Nat) : Int) := by rw [wrap64_of (by omega) (by omega)]; omega
    have hd : decide (((s.size - 4 : Nat) : Int) < 0) = false := by rw [decide_eq_false_iff_not]; omega
    have hl : s.size - 4 ≤ s.size := by omega
    first | with_reducible refine tw_reg_seq fun K hK => ?_ | (refine tw_seq_assoc ?_; with_reducible refine tw_reg_seq fun K hK => ?_)
    simp only [List.toList_toArray, List.append_eq, List.cons_append, List.nil_append]
    repeat (first | (first | with_reducible refine twL_go fun Cw cw => ?_ | with_reducible refine twL_yes rfl fun Cw cw => ?_); simp only [go_sem]; (first | refine cw _ _ ?_ | refine Or.inl (cw _ _ ?_)); clear cw Cw; simp only [tput, List.set_cons_zero, List.set_cons_succ] | (with_reducible refine twL_no _ rfl rfl ?_); simp only [tput, List.set_cons_zero, List.set_cons_succ])
    refine twL_nil.2 (hK _ _ ?_); clear hK K
    first | with_reducible refine tw_reg_seq fun K hK => ?_ | (refine tw_seq_assoc ?_; with_reducible refine tw_reg_seq fun K hK => ?_)
    simp only [List.toList_toArray, List.append_eq, List.cons_append, List.nil_append]
    repeat (first | (first | with_reducible refine twL_go fun Cw cw => ?_ | with_reducible refine twL_yes rfl fun Cw cw => ?_); simp only [go_sem, hw]; (first | refine cw _ _ ?_ | refine Or.inl (cw _ _ ?_)); clear cw Cw; simp only [tput, List.set_cons_zero, List.set_cons_succ] | (with_reducible refine twL_no _ rfl rfl ?_); simp only [tput, List.set_cons_zero, List.set_cons_succ])
    refine twL_nil.2 (hK _ _ ?_); clear hK K
    first | with_reducible refine tw_reg_seq fun K hK => ?_ | (refine tw_seq_assoc ?_; with_reducible refine tw_reg_seq fun K hK => ?_)
    simp only [List.toList_toArray, List.append_eq, List.cons_append, List.nil_append]
    repeat (first | (first | with_reducible refine twL_go fun Cw cw => ?_ | with_reducible refine twL_yes rfl fun Cw cw => ?_); simp only [go_sem, hd]; (first | refine cw _ _ ?_ | refine Or.inl (cw _ _ ?_)); clear cw Cw; simp only [tput, List.set_cons_zero, List.set_cons_succ] | (with_reducible refine twL_no _ rfl rfl ?_); simp only [tput, List.set_cons_zero, List.set_cons_succ])
    refine twL_nil.2 (hK _ _ ?_); clear hK K
    refine tw_cond_seq rfl (fun h => by cases h) (fun _ => ?_)
    refine tw_skip_seq ?_
    first | with_reducible refine tw_reg_seq fun K hK => ?_ | (refine tw_seq_assoc ?_; with_reducible refine tw_reg_seq fun K hK => ?_)
    simp only [List.toList_toArray, List.append_eq, List.cons_append, List.nil_append]
    repeat (first | (first | with_reducible refine twL_go fun Cw cw => ?_ | with_reducible refine twL_yes rfl fun Cw cw => ?_); simp only [go_sem, hl]; (first | refine cw _ _ ?_ | refine Or.inl (cw _ _ ?_)); clear cw Cw; simp only [tput, List.set_cons_zero, List.set_cons_succ] | (with_reducible refine twL_no _ rfl rfl ?_); simp only [tput, List.set_cons_zero, List.set_cons_succ])
    first | with_reducible refine twL_go fun Cw cw => ?_ | with_reducible refine twL_yes rfl fun Cw cw => ?_
    simp only [go_sem, hl]
    refine (seal_walk _ _ (by rw [size_extract _ _ hl]; omega)).mono ?_
    rintro _ _ ⟨rfl, hg⟩
    refine cw _ _ ?_; clear cw Cw; simp only [tput, List.set_cons_zero, List.set_cons_succ]
    repeat (first | (first | with_reducible refine twL_go fun Cw cw => ?_ | with_reducible refine twL_yes rfl fun Cw cw => ?_); simp only [go_sem]; (first | refine cw _ _ ?_ | refine Or.inl (cw _ _ ?_)); clear cw Cw; simp only [tput, List.set_cons_zero, List.set_cons_succ] | (with_reducible refine twL_no _ rfl rfl ?_); simp only [tput, List.set_cons_zero, List.set_cons_succ])
    refine twL_nil.2 (hK _ _ ?_); clear hK K
    refine tw_cond_seq rfl (fun h => ?_) (fun h => ?_)
    · have ho : openB s = (⟨#[]⟩, 12) := by unfold openB; rw [if_neg h4, if_neg (by simpa using h)]
      first | with_reducible refine tw_reg_seq fun K hK => ?_ | (refine tw_seq_assoc ?_; with_reducible refine tw_reg_seq fun K hK => ?_)
      simp only [List.toList_toArray, List.append_eq, List.cons_append, List.nil_append]
      repeat (first | (first | with_reducible refine twL_go fun Cw cw => ?_ | with_reducible refine twL_yes rfl fun Cw cw => ?_); simp only [go_sem]; (first | refine cw _ _ ?_ | refine Or.inl (cw _ _ ?_)); clear cw Cw; simp only [tput, List.set_cons_zero, List.set_cons_succ] | (with_reducible refine twL_no _ rfl rfl ?_); simp only [tput, List.set_cons_zero, List.set_cons_succ])
      refine twL_nil.2 (hK _ _ ?_); clear hK K
      refine tw_ret_seq ?_
      simp only [tw, TX.inBlock, TX.then, tpost, tresults, Tryz.f103, List.toList_toArray, tresultL, tresult1, ev, List.getElem?_cons_zero, List.getElem?_cons_succ, Option.map_some, Option.bind_some]
      rw [ho]
      exact ⟨rfl, hg⟩
    · have ho : openB s = (s.extract 0 (s.size - 4), 0) := by unfold openB; rw [if_neg h4, if_pos (by simpa using h)]
      refine tw_skip_seq ?_
      first | with_reducible refine tw_reg_seq fun K hK => ?_ | (refine tw_seq_assoc ?_; with_reducible refine tw_reg_seq fun K hK => ?_)
      simp only [List.toList_toArray, List.append_eq, List.cons_append, List.nil_append]
      repeat (first | (first | with_reducible refine twL_go fun Cw cw => ?_ | with_reducible refine twL_yes rfl fun Cw cw => ?_); simp only [go_sem, hl]; (first | refine cw _ _ ?_ | refine Or.inl (cw _ _ ?_)); clear cw Cw; simp only [tput, List.set_cons_zero, List.set_cons_succ] | (with_reducible refine twL_no _ rfl rfl ?_); simp only [tput, List.set_cons_zero, List.set_cons_succ])
      refine twL_nil.2 (hK _ _ ?_); clear hK K
      simp only [tw, TX.inBlock, TX.then, tpost, tresults, Tryz.f103, List.toList_toArray, tresultL, tresult1, ev, List.getElem?_cons_zero, List.getElem?_cons_succ, Option.map_some, Option.bind_some]
      rw [ho]
      exact ⟨rfl, hg⟩

end Go.Proofs.YtkmcbaihemaoeaaGreat
