/- The crc seat: what each function of the table and of the sums does, over trees. -/
import Derived.Test.YtbhhmnfjjnnkiaaGreatTab
import Derived.Test.YtbhhmnfjjnnkiaaGreatT17
set_option linter.unusedVariables false
set_option linter.unusedSimpArgs false
set_option maxRecDepth 10000
namespace Go.Proofs.YtbhhmnfjjnnkiaaGreat
open Go.TM

/-- One turn of eight, as the code's. -/
def shiftInt (c : Int) : Int := ixor .u32 (ishr .u32 c 1) (iand .u32 3988292384 (IntKind.u32.wrap (0 - iand .u32 c 1)))
def shiftN : Nat → Int → Int
  | 0, c => c
  | n + 1, c => shiftN n (shiftInt c)
theorem shiftN_succ (n : Nat) (c : Int) : shiftN (n + 1) c = shiftInt (shiftN n c) := by
  induction n generalizing c with
  | zero => rfl
  | succ n ih => rw [shiftN, ih]; rfl

def tabInt (i : Nat) : TV := .int .u32 (shiftN 8 i)
def tabCells (i : Nat) : List TV := (List.range i).map tabInt ++ List.replicate (256 - i) (.int .u32 0)

theorem tabCells_step (i : Nat) (h : i < 256) : (tabCells i).take i ++ [tabInt i] ++ (tabCells i).drop (i + 1) = tabCells (i + 1) := by
  unfold tabCells
  rw [List.take_left' (by simp), List.drop_append]
  simp only [List.length_map, List.length_range, List.range_succ, List.map_append, List.map_cons, List.map_nil]
  rw [List.drop_eq_nil_of_le (by simp), show i + 1 - i = 1 by omega, List.drop_replicate, show 256 - i - 1 = 256 - (i + 1) by omega]
  simp
theorem tabCells_length (i : Nat) (h : i ≤ 256) : (tabCells i).length = 256 := by
  unfold tabCells; simp; omega

theorem make_walk (σ : TS) : TCalls Tryz.prog 216 [] σ fun r σ' => r = .ptr σ.length 0 ∧ σ' = σ ++ [.cells (tabCells 256)] := by
  refine tcalls_of [] Tryz.func216 (by kernel_rfl) rfl ?_
  show tw _ _ _ _ (List.replicate 28 none) _
  simp only [List.replicate]
  first | with_reducible refine tw_reg_seq fun K hK => ?_ | (refine tw_seq_assoc ?_; with_reducible refine tw_reg_seq fun K hK => ?_)
  simp only [List.toList_toArray, List.append_eq, List.cons_append, List.nil_append]
  repeat (first | (first | with_reducible refine twL_go fun Cw cw => ?_ | with_reducible refine twL_yes rfl fun Cw cw => ?_); simp only [go_sem]; (first | refine cw _ _ ?_ | refine Or.inl (cw _ _ ?_)); clear cw Cw; simp only [tput, List.set_cons_zero, List.set_cons_succ] | (with_reducible refine twL_no _ rfl rfl ?_); simp only [tput, List.set_cons_zero, List.set_cons_succ])
  refine twL_nil.2 (hK _ _ ?_); clear hK K
  first | with_reducible refine tw_reg_seq fun K hK => ?_ | (refine tw_seq_assoc ?_; with_reducible refine tw_reg_seq fun K hK => ?_)
  simp only [List.toList_toArray, List.append_eq, List.cons_append, List.nil_append]
  repeat (first | (first | with_reducible refine twL_go fun Cw cw => ?_ | with_reducible refine twL_yes rfl fun Cw cw => ?_); simp only [go_sem]; (first | refine cw _ _ ?_ | refine Or.inl (cw _ _ ?_)); clear cw Cw; simp only [tput, List.set_cons_zero, List.set_cons_succ] | (with_reducible refine twL_no _ rfl rfl ?_); simp only [tput, List.set_cons_zero, List.set_cons_succ])
  refine twL_nil.2 (hK _ _ ?_); clear hK K
  refine tw_seq_assoc ?_
  first | with_reducible refine tw_reg_seq fun K hK => ?_ | (refine tw_seq_assoc ?_; with_reducible refine tw_reg_seq fun K hK => ?_)
  simp only [List.toList_toArray, List.append_eq, List.cons_append, List.nil_append]
  repeat (first | (first | with_reducible refine twL_go fun Cw cw => ?_ | with_reducible refine twL_yes rfl fun Cw cw => ?_); simp only [go_sem]; (first | refine cw _ _ ?_ | refine Or.inl (cw _ _ ?_)); clear cw Cw; simp only [tput, List.set_cons_zero, List.set_cons_succ] | (with_reducible refine twL_no _ rfl rfl ?_); simp only [tput, List.set_cons_zero, List.set_cons_succ])
  refine twL_nil.2 (hK _ _ ?_); clear hK K
  refine tw_block_seq fun K hK => ?_
  refine tw_loop (fun n m s => ∃ (i : Nat) (iz : Int) (x2 x3 x4 x5 x7 x8 x9 x10 x11 x12 x13 x14 x15 x16 x17 x18 x19 x20 x21 x22 x23 x24 x25 x26 x27 : Option TV), m = [some (.nilp), some (.ptr σ.length 0), x2, x3, x4, x5, some (.int .i64 iz), x7, x8, x9, x10, x11, x12, x13, x14, x15, x16, x17, x18, x19, x20, x21, x22, x23, x24, x25, x26, x27] ∧ iz = i ∧ n = 256 - i ∧ i ≤ 256 ∧ s = σ ++ [.cells (tabCells i)]) (n := 256) ?_ ?_
  · exact ⟨0, _, _, _, _, _, _, _, _, _, _, _, _, _, _, _, _, _, _, _, _, _, _, _, _, _, _, rfl, rfl, rfl, by omega, rfl⟩
  · rintro n m s ⟨i, _, x2, x3, x4, x5, x7, x8, x9, x10, x11, x12, x13, x14, x15, x16, x17, x18, x19, x20, x21, x22, x23, x24, x25, x26, x27, rfl, rfl, rfl, hi, rfl⟩
    first | with_reducible refine tw_reg_seq fun K hK => ?_ | (refine tw_seq_assoc ?_; with_reducible refine tw_reg_seq fun K hK => ?_)
    simp only [List.toList_toArray, List.append_eq, List.cons_append, List.nil_append]
    repeat (first | (first | with_reducible refine twL_go fun Cw cw => ?_ | with_reducible refine twL_yes rfl fun Cw cw => ?_); simp only [go_sem]; (first | refine cw _ _ ?_ | refine Or.inl (cw _ _ ?_)); clear cw Cw; simp only [tput, List.set_cons_zero, List.set_cons_succ] | (with_reducible refine twL_no _ rfl rfl ?_); simp only [tput, List.set_cons_zero, List.set_cons_succ])
    refine twL_nil.2 (hK _ _ ?_); clear hK K
    refine tw_cond_seq rfl (fun h => ?_) (fun h => ?_)
    · refine tw_skip_seq ?_
      simp only [decide_eq_true_eq] at h
      refine tw_block_seq fun K1 hK1 => ?_
      first | with_reducible refine tw_reg_seq fun K hK => ?_ | (refine tw_seq_assoc ?_; with_reducible refine tw_reg_seq fun K hK => ?_)
      simp only [List.toList_toArray, List.append_eq, List.cons_append, List.nil_append]
      repeat (first | (first | with_reducible refine twL_go fun Cw cw => ?_ | with_reducible refine twL_yes rfl fun Cw cw => ?_); simp only [go_sem]; (first | refine cw _ _ ?_ | refine Or.inl (cw _ _ ?_)); clear cw Cw; simp only [tput, List.set_cons_zero, List.set_cons_succ] | (with_reducible refine twL_no _ rfl rfl ?_); simp only [tput, List.set_cons_zero, List.set_cons_succ])
      refine twL_nil.2 (hK _ _ ?_); clear hK K
      first | with_reducible refine tw_reg_seq fun K hK => ?_ | (refine tw_seq_assoc ?_; with_reducible refine tw_reg_seq fun K hK => ?_)
      simp only [List.toList_toArray, List.append_eq, List.cons_append, List.nil_append]
      repeat (first | (first | with_reducible refine twL_go fun Cw cw => ?_ | with_reducible refine twL_yes rfl fun Cw cw => ?_); simp only [go_sem]; (first | refine cw _ _ ?_ | refine Or.inl (cw _ _ ?_)); clear cw Cw; simp only [tput, List.set_cons_zero, List.set_cons_succ] | (with_reducible refine twL_no _ rfl rfl ?_); simp only [tput, List.set_cons_zero, List.set_cons_succ])
      refine twL_nil.2 (hK _ _ ?_); clear hK K
      refine tw_seq_assoc ?_
      first | with_reducible refine tw_reg_seq fun K hK => ?_ | (refine tw_seq_assoc ?_; with_reducible refine tw_reg_seq fun K hK => ?_)
      simp only [List.toList_toArray, List.append_eq, List.cons_append, List.nil_append]
      repeat (first | (first | with_reducible refine twL_go fun Cw cw => ?_ | with_reducible refine twL_yes rfl fun Cw cw => ?_); simp only [go_sem]; (first | refine cw _ _ ?_ | refine Or.inl (cw _ _ ?_)); clear cw Cw; simp only [tput, List.set_cons_zero, List.set_cons_succ] | (with_reducible refine twL_no _ rfl rfl ?_); simp only [tput, List.set_cons_zero, List.set_cons_succ])
      refine twL_nil.2 (hK _ _ ?_); clear hK K
      refine tw_block_seq fun K2 hK2 => ?_
      refine tw_loop (fun n m s => ∃ (j : Nat) (jz c : Int) (x4 x5 x7 x8 x9 x10 x12 x13 x14 x15 x16 x17 x18 x19 x20 x21 x22 x23 x24 x25 x26 x27 : Option TV), m = [some (.nilp), some (.ptr σ.length 0), some (.int .i64 (i : Int)), some (.int .u32 c), x4, x5, some (.int .i64 (i : Int)), x7, x8, x9, x10, some (.int .i64 jz), x12, x13, x14, x15, x16, x17, x18, x19, x20, x21, x22, x23, x24, x25, x26, x27] ∧ jz = j ∧ c = shiftN j i ∧ n = 8 - j ∧ j ≤ 8 ∧ s = σ ++ [.cells (tabCells i)]) (n := 8) ?_ ?_
      · exact ⟨0, _, _, _, _, _, _, _, _, _, _, _, _, _, _, _, _, _, _, _, _, _, _, _, _, rfl, rfl, wrapU32_of (by omega) (by omega), rfl, by omega, rfl⟩
      · rintro n m s ⟨j, _, c, x4, x5, x7, x8, x9, x10, x12, x13, x14, x15, x16, x17, x18, x19, x20, x21, x22, x23, x24, x25, x26, x27, rfl, rfl, hc, rfl, hj, rfl⟩
        first | with_reducible refine tw_reg_seq fun K hK => ?_ | (refine tw_seq_assoc ?_; with_reducible refine tw_reg_seq fun K hK => ?_)
        simp only [List.toList_toArray, List.append_eq, List.cons_append, List.nil_append]
        repeat (first | (first | with_reducible refine twL_go fun Cw cw => ?_ | with_reducible refine twL_yes rfl fun Cw cw => ?_); simp only [go_sem]; (first | refine cw _ _ ?_ | refine Or.inl (cw _ _ ?_)); clear cw Cw; simp only [tput, List.set_cons_zero, List.set_cons_succ] | (with_reducible refine twL_no _ rfl rfl ?_); simp only [tput, List.set_cons_zero, List.set_cons_succ])
        refine twL_nil.2 (hK _ _ ?_); clear hK K
        refine tw_cond_seq rfl (fun h2 => ?_) (fun h2 => ?_)
        · refine tw_skip_seq ?_
          simp only [decide_eq_true_eq] at h2
          refine tw_block_seq fun K3 hK3 => ?_
          refine tw_reg_end fun K hK => ?_
          simp only [List.toList_toArray, List.append_eq, List.cons_append, List.nil_append]
          repeat (first | (first | with_reducible refine twL_go fun Cw cw => ?_ | with_reducible refine twL_yes rfl fun Cw cw => ?_); simp only [go_sem]; (first | refine cw _ _ ?_ | refine Or.inl (cw _ _ ?_)); clear cw Cw; simp only [tput, List.set_cons_zero, List.set_cons_succ] | (with_reducible refine twL_no _ rfl rfl ?_); simp only [tput, List.set_cons_zero, List.set_cons_succ])
          refine twL_nil.2 (hK _ _ ?_); clear hK K
          refine hK3 _ _ ?_
          refine tw_reg_end fun K hK => ?_
          simp only [List.toList_toArray, List.append_eq, List.cons_append, List.nil_append]
          repeat (first | (first | with_reducible refine twL_go fun Cw cw => ?_ | with_reducible refine twL_yes rfl fun Cw cw => ?_); simp only [go_sem]; (first | refine cw _ _ ?_ | refine Or.inl (cw _ _ ?_)); clear cw Cw; simp only [tput, List.set_cons_zero, List.set_cons_succ] | (with_reducible refine twL_no _ rfl rfl ?_); simp only [tput, List.set_cons_zero, List.set_cons_succ])
          refine twL_nil.2 (hK _ _ ?_); clear hK K
          exact ⟨8 - (j + 1), by omega, j + 1, _, _, _, _, _, _, _, _, _, _, _, _, _, _, _, _, _, _, _, _, _, _, _, _, rfl, by rw [wrap64_of (by omega) (by omega)]; omega, by rw [shiftN_succ, ← hc]; rfl, rfl, by omega, rfl⟩
        · refine tw_exit_seq ?_
          simp only [decide_eq_false_iff_not] at h2
          obtain rfl : j = 8 := by omega
          refine hK2 _ _ ?_
          have hlen : (σ ++ [TObj.cells (tabCells i)])[σ.length]? = some (.cells (tabCells i)) := by simp
          have h1 : i < 256 := by omega
          have h3 : i + 1 ≤ (tabCells i).length := by rw [tabCells_length i hi]; omega
          refine tw_reg_end fun K hK => ?_
          simp only [List.toList_toArray, List.append_eq, List.cons_append, List.nil_append]
          repeat (first | (first | with_reducible refine twL_go fun Cw cw => ?_ | with_reducible refine twL_yes rfl fun Cw cw => ?_); simp only [go_sem, hlen, h1, h3]; (first | refine cw _ _ ?_ | refine Or.inl (cw _ _ ?_)); clear cw Cw; simp only [tput, List.set_cons_zero, List.set_cons_succ] | (with_reducible refine twL_no _ rfl rfl ?_); simp only [tput, List.set_cons_zero, List.set_cons_succ])
          refine twL_nil.2 (hK _ _ ?_); clear hK K
          refine hK1 _ _ ?_
          refine tw_reg_end fun K hK => ?_
          simp only [List.toList_toArray, List.append_eq, List.cons_append, List.nil_append]
          repeat (first | (first | with_reducible refine twL_go fun Cw cw => ?_ | with_reducible refine twL_yes rfl fun Cw cw => ?_); simp only [go_sem]; (first | refine cw _ _ ?_ | refine Or.inl (cw _ _ ?_)); clear cw Cw; simp only [tput, List.set_cons_zero, List.set_cons_succ] | (with_reducible refine twL_no _ rfl rfl ?_); simp only [tput, List.set_cons_zero, List.set_cons_succ])
          refine twL_nil.2 (hK _ _ ?_); clear hK K
          refine ⟨256 - (i + 1), by omega, i + 1, _, _, _, _, _, _, _, _, _, _, _, _, _, _, _, _, _, _, _, _, _, _, _, _, _, _, rfl, by rw [wrap64_of (by omega) (by omega)]; omega, rfl, by omega, ?_⟩
          rw [← tabCells_step i (by omega)]
          simp [splice, tabInt, hc]
    · refine tw_exit_seq ?_
      simp only [decide_eq_false_iff_not] at h
      obtain rfl : i = 256 := by omega
      refine hK _ _ ?_
      first | with_reducible refine tw_reg_seq fun K hK => ?_ | (refine tw_seq_assoc ?_; with_reducible refine tw_reg_seq fun K hK => ?_)
      simp only [List.toList_toArray, List.append_eq, List.cons_append, List.nil_append]
      repeat (first | (first | with_reducible refine twL_go fun Cw cw => ?_ | with_reducible refine twL_yes rfl fun Cw cw => ?_); simp only [go_sem]; (first | refine cw _ _ ?_ | refine Or.inl (cw _ _ ?_)); clear cw Cw; simp only [tput, List.set_cons_zero, List.set_cons_succ] | (with_reducible refine twL_no _ rfl rfl ?_); simp only [tput, List.set_cons_zero, List.set_cons_succ])
      refine twL_nil.2 (hK _ _ ?_); clear hK K
      simp only [tw, TX.inBlock, TX.then, tpost, tresults, Tryz.f216, List.toList_toArray, tresultL, tresult1, ev, List.getElem?_cons_zero, List.getElem?_cons_succ, Option.map_some, Option.bind_some]
      simp

/- sums -/
theorem wrap_range (k : IntKind) (hk : k.signed = false) (n : Int) : 0 ≤ k.wrap n ∧ k.wrap n < 2 ^ k.bits := by
  unfold IntKind.wrap
  rw [hk]
  simp only [Bool.false_and, Bool.false_eq_true, if_false]
  have : (0 : Int) < 2 ^ k.bits := by cases k <;> simp [IntKind.bits]
  exact ⟨Int.emod_nonneg _ (by omega), Int.emod_lt_of_pos _ this⟩

theorem ixor_u8 (a b : Int) : 0 ≤ ixor .u8 a b ∧ ixor .u8 a b < 256 := wrap_range .u8 rfl _
theorem ixor_u32 (a b : Int) : 0 ≤ ixor .u32 a b ∧ ixor .u32 a b < 4294967296 := wrap_range .u32 rfl _

/-- A byte is taken, by the table. -/
def stepInt (c : Int) (b : UInt8) : Int := ixor .u32 (ishr .u32 c 8) (shiftN 8 (ixor .u8 (IntKind.u8.wrap c) b.toNat))
def goFold (c : Int) (bs : List UInt8) : Int := bs.foldl stepInt c
theorem goFold_append (c : Int) (a b : List UInt8) : goFold c (a ++ b) = goFold (goFold c a) b := List.foldl_append

theorem tabCells_get (i : Nat) (h : i < 256) : (tabCells 256)[i]? = some (tabInt i) := by
  unfold tabCells
  rw [List.getElem?_append_left (by simpa using h), List.getElem?_map, List.getElem?_range h]
  rfl

theorem byteTVs_get (s : ByteArray) (i : Nat) (h : i < s.data.toList.length) : (byteTVs s)[i]? = some (.int .u8 s.data.toList[i].toNat) := by
  unfold byteTVs
  rw [List.getElem?_map, List.getElem?_eq_getElem h]
  rfl

theorem byteTVs_length (s : ByteArray) : (byteTVs s).length = s.size := by
  unfold byteTVs
  simp
theorem data_length (s : ByteArray) : s.data.toList.length = s.size := by simp

theorem go_walk (c : Int) (s : ByteArray) (σ : TS) (l : Nat) (hl : σ[l]? = some (.cells (tabCells 256))) (hs : s.size ≤ 9223372036854775806) :
    TCalls Tryz.prog 217 [.ptr l 0, .int .u32 c, .str s] σ fun r σ' => r = .int .u32 (goFold c s.data.toList) ∧ σ' = σ := by
  refine tcalls_of [] Tryz.func217 (by kernel_rfl) rfl ?_
  show tw _ _ _ _ ([some _, some _, some _] ++ List.replicate 29 none) _
  simp only [List.replicate, List.cons_append, List.nil_append]
  first | with_reducible refine tw_reg_seq fun K hK => ?_ | (refine tw_seq_assoc ?_; with_reducible refine tw_reg_seq fun K hK => ?_)
  simp only [List.toList_toArray, List.append_eq, List.cons_append, List.nil_append]
  repeat (first | (first | with_reducible refine twL_go fun Cw cw => ?_ | with_reducible refine twL_yes rfl fun Cw cw => ?_); simp only [go_sem]; (first | refine cw _ _ ?_ | refine Or.inl (cw _ _ ?_)); clear cw Cw; simp only [tput, List.set_cons_zero, List.set_cons_succ] | (with_reducible refine twL_no _ rfl rfl ?_); simp only [tput, List.set_cons_zero, List.set_cons_succ])
  refine twL_nil.2 (hK _ _ ?_); clear hK K
  refine tw_seq_assoc ?_
  first | with_reducible refine tw_reg_seq fun K hK => ?_ | (refine tw_seq_assoc ?_; with_reducible refine tw_reg_seq fun K hK => ?_)
  simp only [List.toList_toArray, List.append_eq, List.cons_append, List.nil_append]
  repeat (first | (first | with_reducible refine twL_go fun Cw cw => ?_ | with_reducible refine twL_yes rfl fun Cw cw => ?_); simp only [go_sem]; (first | refine cw _ _ ?_ | refine Or.inl (cw _ _ ?_)); clear cw Cw; simp only [tput, List.set_cons_zero, List.set_cons_succ] | (with_reducible refine twL_no _ rfl rfl ?_); simp only [tput, List.set_cons_zero, List.set_cons_succ])
  refine twL_nil.2 (hK _ _ ?_); clear hK K
  refine tw_cond_seq rfl (fun h => by cases h) (fun h => ?_)
  refine tw_skip_seq ?_
  refine tw_seq_assoc ?_
  first | with_reducible refine tw_reg_seq fun K hK => ?_ | (refine tw_seq_assoc ?_; with_reducible refine tw_reg_seq fun K hK => ?_)
  simp only [List.toList_toArray, List.append_eq, List.cons_append, List.nil_append]
  repeat (first | (first | with_reducible refine twL_go fun Cw cw => ?_ | with_reducible refine twL_yes rfl fun Cw cw => ?_); simp only [go_sem]; (first | refine cw _ _ ?_ | refine Or.inl (cw _ _ ?_)); clear cw Cw; simp only [tput, List.set_cons_zero, List.set_cons_succ] | (with_reducible refine twL_no _ rfl rfl ?_); simp only [tput, List.set_cons_zero, List.set_cons_succ])
  refine twL_nil.2 (hK _ _ ?_); clear hK K
  refine tw_block_seq fun K hK => ?_
  refine tw_loop (fun n m s' => ∃ (i : Nat) (iz c' : Int) (x2 x3 x4 x5 x6 x7 x8 x9 x10 x11 x12 x16 x17 x18 x19 x20 x21 x22 x23 x24 x25 x26 x27 x28 x29 x30 x31 : Option TV), m = [some (.ptr l 0), some (.int .u32 c'), x2, x3, x4, x5, x6, x7, x8, x9, x10, x11, x12, some (.sl none s.size (byteTVs s)), some (.int .i64 s.size), some (.int .i64 iz), x16, x17, x18, x19, x20, x21, x22, x23, x24, x25, x26, x27, x28, x29, x30, x31] ∧ iz = i ∧ c' = goFold c (s.data.toList.take i) ∧ n = s.size - i ∧ i ≤ s.size ∧ s' = σ) (n := s.size) ?_ ?_
  · exact ⟨0, _, _, _, _, _, _, _, _, _, _, _, _, _, _, _, _, _, _, _, _, _, _, _, _, _, _, _, _, _, rfl, rfl, rfl, rfl, by omega, rfl⟩
  · rintro n m s' ⟨i, _, c', x2, x3, x4, x5, x6, x7, x8, x9, x10, x11, x12, x16, x17, x18, x19, x20, x21, x22, x23, x24, x25, x26, x27, x28, x29, x30, x31, rfl, rfl, hc, rfl, hi, rfl⟩
    first | with_reducible refine tw_reg_seq fun K hK => ?_ | (refine tw_seq_assoc ?_; with_reducible refine tw_reg_seq fun K hK => ?_)
    simp only [List.toList_toArray, List.append_eq, List.cons_append, List.nil_append]
    repeat (first | (first | with_reducible refine twL_go fun Cw cw => ?_ | with_reducible refine twL_yes rfl fun Cw cw => ?_); simp only [go_sem]; (first | refine cw _ _ ?_ | refine Or.inl (cw _ _ ?_)); clear cw Cw; simp only [tput, List.set_cons_zero, List.set_cons_succ] | (with_reducible refine twL_no _ rfl rfl ?_); simp only [tput, List.set_cons_zero, List.set_cons_succ])
    refine twL_nil.2 (hK _ _ ?_); clear hK K
    refine tw_cond_seq rfl (fun h => ?_) (fun h => ?_)
    · refine tw_skip_seq ?_
      simp only [decide_eq_true_eq] at h
      have hlt : i < s.data.toList.length := by rw [data_length]; omega
      have h0 : i < (byteTVs s).length := by rw [byteTVs_length]; omega
      have hb : (List.drop i (byteTVs s))[0]? = some (.int .u8 s.data.toList[i].toNat) := by
        rw [List.getElem?_drop]
        simpa using byteTVs_get s i hlt
      refine tw_block_seq fun K1 hK1 => ?_
      first | with_reducible refine tw_reg_seq fun K hK => ?_ | (refine tw_seq_assoc ?_; with_reducible refine tw_reg_seq fun K hK => ?_)
      simp only [List.toList_toArray, List.append_eq, List.cons_append, List.nil_append]
      repeat (first | (first | with_reducible refine twL_go fun Cw cw => ?_ | with_reducible refine twL_yes rfl fun Cw cw => ?_); simp only [go_sem, h, h0, hb]; (first | refine cw _ _ ?_ | refine Or.inl (cw _ _ ?_)); clear cw Cw; simp only [tput, List.set_cons_zero, List.set_cons_succ] | (with_reducible refine twL_no _ rfl rfl ?_); simp only [tput, List.set_cons_zero, List.set_cons_succ])
      refine twL_nil.2 (hK _ _ ?_); clear hK K
      have hx := ixor_u8 (IntKind.u8.wrap c') s.data.toList[i].toNat
      have h1 : 0 ≤ ixor .u8 (IntKind.u8.wrap c') s.data.toList[i].toNat ∧ ixor .u8 (IntKind.u8.wrap c') s.data.toList[i].toNat < (256 : Nat) := ⟨hx.1, by omega⟩
      have ht : (List.drop (ixor .u8 (IntKind.u8.wrap c') s.data.toList[i].toNat).toNat (tabCells 256))[0]? = some (.int .u32 (shiftN 8 (ixor .u8 (IntKind.u8.wrap c') s.data.toList[i].toNat))) := by
        rw [List.getElem?_drop, tabCells_get _ (by omega)]
        simp only [tabInt]
        congr 3
      refine tw_reg_end fun K hK => ?_
      simp only [List.toList_toArray, List.append_eq, List.cons_append, List.nil_append]
      repeat (first | (first | with_reducible refine twL_go fun Cw cw => ?_ | with_reducible refine twL_yes rfl fun Cw cw => ?_); simp only [go_sem, h1, ht, hl]; (first | refine cw _ _ ?_ | refine Or.inl (cw _ _ ?_)); clear cw Cw; simp only [tput, List.set_cons_zero, List.set_cons_succ] | (with_reducible refine twL_no _ rfl rfl ?_); simp only [tput, List.set_cons_zero, List.set_cons_succ])
      refine twL_nil.2 (hK _ _ ?_); clear hK K
      refine hK1 _ _ ?_
      refine tw_reg_end fun K hK => ?_
      simp only [List.toList_toArray, List.append_eq, List.cons_append, List.nil_append]
      repeat (first | (first | with_reducible refine twL_go fun Cw cw => ?_ | with_reducible refine twL_yes rfl fun Cw cw => ?_); simp only [go_sem]; (first | refine cw _ _ ?_ | refine Or.inl (cw _ _ ?_)); clear cw Cw; simp only [tput, List.set_cons_zero, List.set_cons_succ] | (with_reducible refine twL_no _ rfl rfl ?_); simp only [tput, List.set_cons_zero, List.set_cons_succ])
      refine twL_nil.2 (hK _ _ ?_); clear hK K
      refine ⟨s.size - (i + 1), by omega, i + 1, _, _, _, _, _, _, _, _, _, _, _, _, _, _, _, _, _, _, _, _, _, _, _, _, _, _, _, _, _, rfl, by rw [wrap64_of (by omega) (by omega)]; omega, ?_, rfl, by omega, rfl⟩
      rw [List.take_succ_eq_append_getElem hlt, goFold_append, ← hc]
      rfl
    · refine tw_exit_seq ?_
      simp only [decide_eq_false_iff_not] at h
      obtain rfl : i = s.size := by omega
      refine hK _ _ ?_
      first | with_reducible refine tw_reg_seq fun K hK => ?_ | (refine tw_seq_assoc ?_; with_reducible refine tw_reg_seq fun K hK => ?_)
      simp only [List.toList_toArray, List.append_eq, List.cons_append, List.nil_append]
      repeat (first | (first | with_reducible refine twL_go fun Cw cw => ?_ | with_reducible refine twL_yes rfl fun Cw cw => ?_); simp only [go_sem]; (first | refine cw _ _ ?_ | refine Or.inl (cw _ _ ?_)); clear cw Cw; simp only [tput, List.set_cons_zero, List.set_cons_succ] | (with_reducible refine twL_no _ rfl rfl ?_); simp only [tput, List.set_cons_zero, List.set_cons_succ])
      refine twL_nil.2 (hK _ _ ?_); clear hK K
      simp only [tw, TX.inBlock, TX.then, tpost, tresults, Tryz.f217, List.toList_toArray, tresultL, tresult1, ev, List.getElem?_cons_zero, List.getElem?_cons_succ, Option.map_some, Option.bind_some]
      rw [hc, ← data_length, List.take_length]
      simp

end Go.Proofs.YtbhhmnfjjnnkiaaGreat
