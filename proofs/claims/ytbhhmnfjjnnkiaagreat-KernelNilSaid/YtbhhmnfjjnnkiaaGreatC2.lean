/- The crc seat: the sums over bits, and the functions that stand on Make and Go. -/
import Derived.Test.YtbhhmnfjjnnkiaaGreatC0
import Derived.Test.YtbhhmnfjjnnkiaaGreatC1
set_option linter.unusedVariables false
set_option linter.unusedSimpArgs false
set_option maxRecDepth 10000
namespace Go.Proofs.YtbhhmnfjjnnkiaaGreat
open Go.TM

theorem shiftInt_n32 (x : BitVec 32) : shiftInt (n32 x) = n32 (shiftB x) := by
  have h1 : (1 : Int) = n32 1#32 := rfl
  have hp : (3988292384 : Int) = n32 0xEDB88320#32 := rfl
  unfold shiftInt
  rw [show ishr .u32 (n32 x) 1 = n32 (x >>> 1) from ishr_n32 x 1 (by omega), h1, iand_n32, hp]
  unfold shiftB
  have hx : x &&& 1#32 = if x.getLsbD 0 then 1#32 else 0#32 := by
    ext i hi
    cases h0 : x.getLsbD 0 <;> rw [BitVec.getElem_and, BitVec.getElem_one] <;> (by_cases hi0 : i = 0)
    · subst hi0; rw [← BitVec.getLsbD_eq_getElem, h0]; simp
    · simp [hi0]
    · subst hi0; rw [← BitVec.getLsbD_eq_getElem, h0]; simp
    · simp [hi0]
  rw [hx]
  cases h0 : x.getLsbD 0
  · rw [if_neg (by simp), if_neg (by simp)]
    rw [show IntKind.u32.wrap (0 - n32 0#32) = n32 0#32 from rfl, iand_n32, ixor_n32]
    rw [BitVec.and_zero]
  · rw [if_pos rfl, if_pos rfl]
    rw [show IntKind.u32.wrap (0 - n32 1#32) = n32 0xFFFFFFFF#32 from rfl, iand_n32, ixor_n32]
    rw [show (0xEDB88320#32 &&& 0xFFFFFFFF#32) = 0xEDB88320#32 from rfl]

theorem shiftN_n32 (n : Nat) : ∀ x, shiftN n (n32 x) = n32 (shiftBN n x) := by
  induction n with
  | zero => intro x; rfl
  | succ n ih => intro x; rw [shiftN, shiftInt_n32, ih]; rfl

theorem wrapU8_n32 (x : BitVec 32) : IntKind.u8.wrap (n32 x) = ((x.setWidth 8).toNat : Int) := by
  unfold IntKind.wrap
  rw [BitVec.toNat_setWidth]
  simp [IntKind.signed, IntKind.bits]

theorem ixor_u8_bits (x y : BitVec 8) : ixor .u8 (x.toNat : Int) (y.toNat : Int) = ((x ^^^ y).toNat : Int) := by
  unfold ixor
  show IntKind.u8.wrap ((BitVec.ofInt 8 (x.toNat : Int) ^^^ BitVec.ofInt 8 (y.toNat : Int)).toNat : Int) = _
  rw [BitVec.ofInt_natCast, BitVec.ofNat_toNat, BitVec.setWidth_eq, BitVec.ofInt_natCast, BitVec.ofNat_toNat, BitVec.setWidth_eq]
  exact wrapU8_of (by omega) (by have := (x ^^^ y).isLt; omega)

theorem byte_n32 (x : BitVec 8) : (x.toNat : Int) = n32 (x.setWidth 32) := by
  show (x.toNat : Int) = ((x.setWidth 32).toNat : Int)
  rw [BitVec.toNat_setWidth, Nat.mod_eq_of_lt (by have := x.isLt; omega)]

theorem stepInt_n32 (c : BitVec 32) (b : UInt8) : stepInt (n32 c) b = n32 (takeB c b) := by
  unfold stepInt
  rw [wrapU8_n32, show ((b.toNat : Nat) : Int) = (b.toBitVec.toNat : Int) from rfl, ixor_u8_bits, byte_n32, shiftN_n32, show ishr .u32 (n32 c) 8 = n32 (c >>> 8) from ishr_n32 c 8 (by omega), ixor_n32, takeB_table]

theorem goFold_n32 (bs : List UInt8) : ∀ c, goFold (n32 c) bs = n32 (foldB c bs) := by
  induction bs with
  | nil => intro c; rfl
  | cons b bs ih => intro c; show goFold (stepInt (n32 c) b) bs = _; rw [stepInt_n32, ih]; rfl

def Grew (σ σ' : TS) : Prop := ∃ e, σ' = σ ++ e
theorem Grew.refl (σ : TS) : Grew σ σ := ⟨[], by simp⟩
theorem Grew.trans {a b c : TS} (h : Grew a b) (k : Grew b c) : Grew a c := by
  obtain ⟨x, rfl⟩ := h; obtain ⟨y, rfl⟩ := k; exact ⟨x ++ y, by simp⟩
theorem Grew.get {σ σ' : TS} (h : Grew σ σ') {l : Nat} {o : TObj} (e : σ[l]? = some o) : σ'[l]? = some o := by
  obtain ⟨x, rfl⟩ := h
  rw [List.getElem?_append_left (List.getElem?_eq_some_iff.1 e).1]; exact e

/-- The sum of texts. -/
def sumB (bs : List UInt8) : BitVec 32 := 0xFFFFFFFF#32 ^^^ foldB 0xFFFFFFFF#32 bs
def allBytes (ls : List ByteArray) : List UInt8 := ls.flatMap fun s => s.data.toList

theorem allBytes_step {ls : List ByteArray} {i : Nat} (h : i < ls.length) : allBytes (ls.take (i + 1)) = allBytes (ls.take i) ++ ls[i].data.toList := by
  unfold allBytes
  rw [List.take_succ_eq_append_getElem h, List.flatMap_append]
  simp only [List.flatMap_cons, List.flatMap_nil, List.append_nil]
theorem strTVs_get (ls : List ByteArray) (i : Nat) (h : i < ls.length) : (ls.map TV.str)[i]? = some (.str ls[i]) := by
  rw [List.getElem?_map, List.getElem?_eq_getElem h]; rfl

theorem sum_walk (ls : List ByteArray) (σ : TS) (hs : ∀ s ∈ ls, s.size ≤ 9223372036854775806) (hn : ls.length ≤ 9223372036854775806) :
    TCalls Tryz.prog 197 [.sl none ls.length (ls.map .str)] σ fun r σ' => r = .int .u32 (n32 (sumB (allBytes ls))) ∧ Grew σ σ' := by
  refine tcalls_of [] Tryz.func197 (by kernel_rfl) rfl ?_
  show tw _ _ _ _ ([some _] ++ List.replicate 20 none) _
  simp only [List.replicate, List.cons_append, List.nil_append]
  first | with_reducible refine tw_reg_seq fun K hK => ?_ | (refine tw_seq_assoc ?_; with_reducible refine tw_reg_seq fun K hK => ?_)
  simp only [List.toList_toArray, List.append_eq, List.cons_append, List.nil_append]
  repeat (first | (first | with_reducible refine twL_go fun Cw cw => ?_ | with_reducible refine twL_yes rfl fun Cw cw => ?_); simp only [go_sem]; (first | refine cw _ _ ?_ | refine Or.inl (cw _ _ ?_)); clear cw Cw; simp only [tput, List.set_cons_zero, List.set_cons_succ] | (with_reducible refine twL_no _ rfl rfl ?_); simp only [tput, List.set_cons_zero, List.set_cons_succ])
  refine twL_nil.2 (hK _ _ ?_); clear hK K
  first | with_reducible refine tw_reg_seq fun K hK => ?_ | (refine tw_seq_assoc ?_; with_reducible refine tw_reg_seq fun K hK => ?_)
  simp only [List.toList_toArray, List.append_eq, List.cons_append, List.nil_append]
  repeat (first | (first | with_reducible refine twL_go fun Cw cw => ?_ | with_reducible refine twL_yes rfl fun Cw cw => ?_); simp only [go_sem]; (first | refine cw _ _ ?_ | refine Or.inl (cw _ _ ?_)); clear cw Cw; simp only [tput, List.set_cons_zero, List.set_cons_succ] | (with_reducible refine twL_no _ rfl rfl ?_); simp only [tput, List.set_cons_zero, List.set_cons_succ])
  first | with_reducible refine twL_go fun Cw cw => ?_ | with_reducible refine twL_yes rfl fun Cw cw => ?_
  simp only [go_sem]
  refine (make_walk _).mono ?_
  rintro _ _ ⟨rfl, rfl⟩
  refine cw _ _ ?_; clear cw Cw; simp only [tput, List.set_cons_zero, List.set_cons_succ]
  repeat (first | (first | with_reducible refine twL_go fun Cw cw => ?_ | with_reducible refine twL_yes rfl fun Cw cw => ?_); simp only [go_sem]; (first | refine cw _ _ ?_ | refine Or.inl (cw _ _ ?_)); clear cw Cw; simp only [tput, List.set_cons_zero, List.set_cons_succ] | (with_reducible refine twL_no _ rfl rfl ?_); simp only [tput, List.set_cons_zero, List.set_cons_succ])
  refine twL_nil.2 (hK _ _ ?_); clear hK K
  refine tw_seq_assoc ?_
  first | with_reducible refine tw_reg_seq fun K hK => ?_ | (refine tw_seq_assoc ?_; with_reducible refine tw_reg_seq fun K hK => ?_)
  simp only [List.toList_toArray, List.append_eq, List.cons_append, List.nil_append]
  repeat (first | (first | with_reducible refine twL_go fun Cw cw => ?_ | with_reducible refine twL_yes rfl fun Cw cw => ?_); simp only [go_sem]; (first | refine cw _ _ ?_ | refine Or.inl (cw _ _ ?_)); clear cw Cw; simp only [tput, List.set_cons_zero, List.set_cons_succ] | (with_reducible refine twL_no _ rfl rfl ?_); simp only [tput, List.set_cons_zero, List.set_cons_succ])
  refine twL_nil.2 (hK _ _ ?_); clear hK K
  refine tw_block_seq fun K hK => ?_
  refine tw_loop (fun n m s => ∃ (i : Nat) (iz c : Int) (x1 x5 x6 x7 x11 x12 x13 x14 x15 x16 x17 x18 x19 x20 : Option TV), m = [some (.sl none ls.length (ls.map .str)), x1, some (.int .u32 0), some (.ptr σ.length 0), some (.int .u32 c), x5, x6, x7, some (.sl none ls.length (ls.map .str)), some (.int .i64 ls.length), some (.int .i64 iz), x11, x12, x13, x14, x15, x16, x17, x18, x19, x20] ∧ iz = i ∧ c = n32 (foldB 0xFFFFFFFF#32 (allBytes (ls.take i))) ∧ n = ls.length - i ∧ i ≤ ls.length ∧ s = σ ++ [.cells (tabCells 256)]) (n := ls.length) ?_ ?_
  · exact ⟨0, _, _, _, _, _, _, _, _, _, _, _, _, _, _, _, _, rfl, rfl, rfl, rfl, by omega, rfl⟩
  · rintro n m s ⟨i, _, c, x1, x5, x6, x7, x11, x12, x13, x14, x15, x16, x17, x18, x19, x20, rfl, rfl, hc, rfl, hi, rfl⟩
    first | with_reducible refine tw_reg_seq fun K hK => ?_ | (refine tw_seq_assoc ?_; with_reducible refine tw_reg_seq fun K hK => ?_)
    simp only [List.toList_toArray, List.append_eq, List.cons_append, List.nil_append]
    repeat (first | (first | with_reducible refine twL_go fun Cw cw => ?_ | with_reducible refine twL_yes rfl fun Cw cw => ?_); simp only [go_sem]; (first | refine cw _ _ ?_ | refine Or.inl (cw _ _ ?_)); clear cw Cw; simp only [tput, List.set_cons_zero, List.set_cons_succ] | (with_reducible refine twL_no _ rfl rfl ?_); simp only [tput, List.set_cons_zero, List.set_cons_succ])
    refine twL_nil.2 (hK _ _ ?_); clear hK K
    refine tw_cond_seq rfl (fun h => ?_) (fun h => ?_)
    · refine tw_skip_seq ?_
      simp only [decide_eq_true_eq] at h
      have hlt : i < ls.length := by omega
      have h0 : i < (ls.map TV.str).length := by rw [List.length_map]; omega
      have hb : (List.drop i (ls.map TV.str))[0]? = some (.str ls[i]) := by
        rw [List.getElem?_drop, ← strTVs_get ls i hlt]
        congr 1
      refine tw_block_seq fun K1 hK1 => ?_
      first | with_reducible refine tw_reg_seq fun K hK => ?_ | (refine tw_seq_assoc ?_; with_reducible refine tw_reg_seq fun K hK => ?_)
      simp only [List.toList_toArray, List.append_eq, List.cons_append, List.nil_append]
      repeat (first | (first | with_reducible refine twL_go fun Cw cw => ?_ | with_reducible refine twL_yes rfl fun Cw cw => ?_); simp only [go_sem, h, h0, hb]; (first | refine cw _ _ ?_ | refine Or.inl (cw _ _ ?_)); clear cw Cw; simp only [tput, List.set_cons_zero, List.set_cons_succ] | (with_reducible refine twL_no _ rfl rfl ?_); simp only [tput, List.set_cons_zero, List.set_cons_succ])
      refine twL_nil.2 (hK _ _ ?_); clear hK K
      refine tw_reg_end fun K hK => ?_
      simp only [List.toList_toArray, List.append_eq, List.cons_append, List.nil_append]
      repeat (first | (first | with_reducible refine twL_go fun Cw cw => ?_ | with_reducible refine twL_yes rfl fun Cw cw => ?_); simp only [go_sem]; (first | refine cw _ _ ?_ | refine Or.inl (cw _ _ ?_)); clear cw Cw; simp only [tput, List.set_cons_zero, List.set_cons_succ] | (with_reducible refine twL_no _ rfl rfl ?_); simp only [tput, List.set_cons_zero, List.set_cons_succ])
      first | with_reducible refine twL_go fun Cw cw => ?_ | with_reducible refine twL_yes rfl fun Cw cw => ?_
      simp only [go_sem]
      refine (go_walk c ls[i] _ σ.length (by simp) (hs _ (List.getElem_mem _))).mono ?_
      rintro _ _ ⟨rfl, rfl⟩
      refine cw _ _ ?_; clear cw Cw; simp only [tput, List.set_cons_zero, List.set_cons_succ]
      repeat (first | (first | with_reducible refine twL_go fun Cw cw => ?_ | with_reducible refine twL_yes rfl fun Cw cw => ?_); simp only [go_sem]; (first | refine cw _ _ ?_ | refine Or.inl (cw _ _ ?_)); clear cw Cw; simp only [tput, List.set_cons_zero, List.set_cons_succ] | (with_reducible refine twL_no _ rfl rfl ?_); simp only [tput, List.set_cons_zero, List.set_cons_succ])
      refine twL_nil.2 (hK _ _ ?_); clear hK K
      refine hK1 _ _ ?_
      refine tw_reg_end fun K hK => ?_
      simp only [List.toList_toArray, List.append_eq, List.cons_append, List.nil_append]
      repeat (first | (first | with_reducible refine twL_go fun Cw cw => ?_ | with_reducible refine twL_yes rfl fun Cw cw => ?_); simp only [go_sem]; (first | refine cw _ _ ?_ | refine Or.inl (cw _ _ ?_)); clear cw Cw; simp only [tput, List.set_cons_zero, List.set_cons_succ] | (with_reducible refine twL_no _ rfl rfl ?_); simp only [tput, List.set_cons_zero, List.set_cons_succ])
      refine twL_nil.2 (hK _ _ ?_); clear hK K
      refine ⟨ls.length - (i + 1), by omega, i + 1, _, _, _, _, _, _, _, _, _, _, _, _, _, _, _, _, rfl, by rw [wrap64_of (by omega) (by omega)]; omega, ?_, rfl, by omega, rfl⟩
      rw [hc, goFold_n32, ← foldB_append, allBytes_step hlt]
    · refine tw_exit_seq ?_
      simp only [decide_eq_false_iff_not] at h
      obtain rfl : i = ls.length := by omega
      refine hK _ _ ?_
      first | with_reducible refine tw_reg_seq fun K hK => ?_ | (refine tw_seq_assoc ?_; with_reducible refine tw_reg_seq fun K hK => ?_)
      simp only [List.toList_toArray, List.append_eq, List.cons_append, List.nil_append]
      repeat (first | (first | with_reducible refine twL_go fun Cw cw => ?_ | with_reducible refine twL_yes rfl fun Cw cw => ?_); simp only [go_sem]; (first | refine cw _ _ ?_ | refine Or.inl (cw _ _ ?_)); clear cw Cw; simp only [tput, List.set_cons_zero, List.set_cons_succ] | (with_reducible refine twL_no _ rfl rfl ?_); simp only [tput, List.set_cons_zero, List.set_cons_succ])
      refine twL_nil.2 (hK _ _ ?_); clear hK K
      simp only [tw, TX.inBlock, TX.then, tpost, tresults, Tryz.f197, List.toList_toArray, tresultL, tresult1, ev, List.getElem?_cons_zero, List.getElem?_cons_succ, Option.map_some, Option.bind_some]
      rw [hc, List.take_length]
      refine ⟨?_, _, rfl⟩
      show TV.int .u32 (ixor .u32 (n32 0xFFFFFFFF#32) _) = _
      rw [ixor_n32]
      rfl

/-- A sum's bytes, the lowest first. -/
def sumByte (x : BitVec 32) (i : Nat) : UInt8 := UInt8.ofBitVec ((x >>> (8 * i)).setWidth 8)
def sealL (bs : List UInt8) : List UInt8 := bs ++ (List.range 4).map (sumByte (sumB bs))
def sealB (s : ByteArray) : ByteArray := ⟨(sealL s.data.toList).toArray⟩

theorem sumByte_int (x : BitVec 32) (i : Nat) (h : i < 4) : IntKind.u8.wrap (ishr .u32 (n32 x) (IntKind.u64.wrap (IntKind.i64.wrap (8 * (i : Int))))) = ((sumByte x i).toNat : Int) := by
  rw [wrap64_of (by omega) (by omega), wrapU64_of (by omega) (by omega), show (8 * (i : Int)) = ((8 * i : Nat) : Int) by omega, ishr_n32 _ _ (by omega), wrapU8_n32]
  rfl

theorem tbytes_map (bs : List UInt8) : tbytes (bs.map fun b => .int .u8 b.toNat) = some bs := by
  induction bs with
  | nil => rfl
  | cons b bs ih =>
    rw [List.map_cons, tbytes, ih]
    simp

theorem seal_walk (s : ByteArray) (σ : TS) (hs : s.size ≤ 100000) :
    TCalls Tryz.prog 142 [.str s] σ fun r σ' => r = .str (sealB s) ∧ Grew σ σ' := by
  refine tcalls_of [7] Tryz.func142 (by kernel_rfl) rfl ?_
  show tw _ _ _ _ ([some _] ++ List.replicate 25 none) _
  simp only [List.replicate, List.cons_append, List.nil_append]
  first | with_reducible refine tw_reg_seq fun K hK => ?_ | (refine tw_seq_assoc ?_; with_reducible refine tw_reg_seq fun K hK => ?_)
  simp only [List.toList_toArray, List.append_eq, List.cons_append, List.nil_append]
  repeat (first | (first | with_reducible refine twL_go fun Cw cw => ?_ | with_reducible refine twL_yes rfl fun Cw cw => ?_); simp only [go_sem]; (first | refine cw _ _ ?_ | refine Or.inl (cw _ _ ?_)); clear cw Cw; simp only [tput, List.set_cons_zero, List.set_cons_succ] | (with_reducible refine twL_no _ rfl rfl ?_); simp only [tput, List.set_cons_zero, List.set_cons_succ])
  refine twL_nil.2 (hK _ _ ?_); clear hK K
  first | with_reducible refine tw_reg_seq fun K hK => ?_ | (refine tw_seq_assoc ?_; with_reducible refine tw_reg_seq fun K hK => ?_)
  simp only [List.toList_toArray, List.append_eq, List.cons_append, List.nil_append]
  repeat (first | (first | with_reducible refine twL_go fun Cw cw => ?_ | with_reducible refine twL_yes rfl fun Cw cw => ?_); simp only [go_sem]; (first | refine cw _ _ ?_ | refine Or.inl (cw _ _ ?_)); clear cw Cw; simp only [tput, List.set_cons_zero, List.set_cons_succ] | (with_reducible refine twL_no _ rfl rfl ?_); simp only [tput, List.set_cons_zero, List.set_cons_succ])
  refine twL_nil.2 (hK _ _ ?_); clear hK K
  refine tw_seq_assoc ?_
  first | with_reducible refine tw_reg_seq fun K hK => ?_ | (refine tw_seq_assoc ?_; with_reducible refine tw_reg_seq fun K hK => ?_)
  simp only [List.toList_toArray, List.append_eq, List.cons_append, List.nil_append]
  repeat (first | (first | with_reducible refine twL_go fun Cw cw => ?_ | with_reducible refine twL_yes rfl fun Cw cw => ?_); simp only [go_sem, splice]; (first | refine cw _ _ ?_ | refine Or.inl (cw _ _ ?_)); clear cw Cw; simp only [tput, List.set_cons_zero, List.set_cons_succ] | (with_reducible refine twL_no _ rfl rfl ?_); simp only [tput, List.set_cons_zero, List.set_cons_succ])
  first | with_reducible refine twL_go fun Cw cw => ?_ | with_reducible refine twL_yes rfl fun Cw cw => ?_
  simp only [go_sem, splice]
  refine (sum_walk [s] _ (by simp; omega) (by simp)).mono ?_
  rintro _ _ ⟨rfl, e, rfl⟩
  refine cw _ _ ?_; clear cw Cw; simp only [tput, List.set_cons_zero, List.set_cons_succ]
  repeat (first | (first | with_reducible refine twL_go fun Cw cw => ?_ | with_reducible refine twL_yes rfl fun Cw cw => ?_); simp only [go_sem]; (first | refine cw _ _ ?_ | refine Or.inl (cw _ _ ?_)); clear cw Cw; simp only [tput, List.set_cons_zero, List.set_cons_succ] | (with_reducible refine twL_no _ rfl rfl ?_); simp only [tput, List.set_cons_zero, List.set_cons_succ])
  refine twL_nil.2 (hK _ _ ?_); clear hK K
  have hb : allBytes [s] = s.data.toList := by simp [allBytes]
  rw [hb]
  refine tw_block_seq fun K hK => ?_
  refine tw_loop (fun n m s' => ∃ (i : Nat) (iz : Int) (cs : List TV) (x1 x6 x7 x8 x9 x10 x11 x12 x13 x14 x15 x16 x17 x18 x19 x20 x21 x22 x23 x24 x25 : Option TV), m = [some (.str s), x1, some (.str ⟨#[]⟩), some (.sl (some (σ.length, s.size + i)) (s.size + i) cs), some (.int .u32 (n32 (sumB s.data.toList))), some (.int .i64 iz), x6, x7, x8, x9, x10, x11, x12, x13, x14, x15, x16, x17, x18, x19, x20, x21, x22, x23, x24, x25] ∧ iz = i ∧ cs = (s.data.toList ++ (List.range i).map (sumByte (sumB s.data.toList))).map (fun b => .int .u8 b.toNat) ∧ n = 4 - i ∧ i ≤ 4 ∧ s' = σ ++ .right (s.size + i) 1 :: e) (n := 4) ?_ ?_
  · exact ⟨0, _, _, _, _, _, _, _, _, _, _, _, _, _, _, _, _, _, _, _, _, _, _, _, rfl, rfl, by simp [byteTVs], rfl, by omega, by simp⟩
  · rintro n m s' ⟨i, _, cs, x1, x6, x7, x8, x9, x10, x11, x12, x13, x14, x15, x16, x17, x18, x19, x20, x21, x22, x23, x24, x25, rfl, rfl, hc, rfl, hi, rfl⟩
    first | with_reducible refine tw_reg_seq fun K hK => ?_ | (refine tw_seq_assoc ?_; with_reducible refine tw_reg_seq fun K hK => ?_)
    simp only [List.toList_toArray, List.append_eq, List.cons_append, List.nil_append]
    repeat (first | (first | with_reducible refine twL_go fun Cw cw => ?_ | with_reducible refine twL_yes rfl fun Cw cw => ?_); simp only [go_sem]; (first | refine cw _ _ ?_ | refine Or.inl (cw _ _ ?_)); clear cw Cw; simp only [tput, List.set_cons_zero, List.set_cons_succ] | (with_reducible refine twL_no _ rfl rfl ?_); simp only [tput, List.set_cons_zero, List.set_cons_succ])
    refine twL_nil.2 (hK _ _ ?_); clear hK K
    refine tw_cond_seq rfl (fun h => ?_) (fun h => ?_)
    · refine tw_skip_seq ?_
      simp only [decide_eq_true_eq] at h
      refine tw_block_seq fun K1 hK1 => ?_
      have hl : cs.length = (s.size + i) * 1 := by rw [hc]; simp
      have hr : (σ ++ TObj.right (s.size + i) 1 :: e)[σ.length]? = some (.right (s.size + i) 1) := by simp
      have h64 : ¬ IntKind.u64.wrap (IntKind.i64.wrap (8 * (i : Int))) < 0 := by
        rw [wrap64_of (by omega) (by omega), wrapU64_of (by omega) (by omega)]
        omega
      have hz : s.size + i ≤ 140737488355327 ∧ s.size + i ≤ 9223372036854775806 := by omega
      refine tw_reg_end fun K hK => ?_
      simp only [List.toList_toArray, List.append_eq, List.cons_append, List.nil_append]
      repeat (first | (first | with_reducible refine twL_go fun Cw cw => ?_ | with_reducible refine twL_yes rfl fun Cw cw => ?_); simp only [go_sem, hl, hr, h64, hz.1, hz.2, sumByte_int _ i (by omega), splice]; (first | refine cw _ _ ?_ | refine Or.inl (cw _ _ ?_)); clear cw Cw; simp only [tput, List.set_cons_zero, List.set_cons_succ] | (with_reducible refine twL_no _ rfl rfl ?_); simp only [tput, List.set_cons_zero, List.set_cons_succ])
      refine twL_nil.2 (hK _ _ ?_); clear hK K
      refine hK1 _ _ ?_
      refine tw_reg_end fun K hK => ?_
      simp only [List.toList_toArray, List.append_eq, List.cons_append, List.nil_append]
      repeat (first | (first | with_reducible refine twL_go fun Cw cw => ?_ | with_reducible refine twL_yes rfl fun Cw cw => ?_); simp only [go_sem]; (first | refine cw _ _ ?_ | refine Or.inl (cw _ _ ?_)); clear cw Cw; simp only [tput, List.set_cons_zero, List.set_cons_succ] | (with_reducible refine twL_no _ rfl rfl ?_); simp only [tput, List.set_cons_zero, List.set_cons_succ])
      refine twL_nil.2 (hK _ _ ?_); clear hK K
      refine ⟨4 - (i + 1), by omega, i + 1, _, _, _, _, _, _, _, _, _, _, _, _, _, _, _, _, _, _, _, _, _, _, _, rfl, by rw [wrap64_of (by omega) (by omega)]; omega, ?_, rfl, by omega, by simp [Nat.add_assoc]⟩
      rw [hc, List.range_succ]
      simp
    · refine tw_exit_seq ?_
      simp only [decide_eq_false_iff_not] at h
      obtain rfl : i = 4 := by omega
      refine hK _ _ ?_
      have ht : tbytes (cs.take (s.size + 4)) = some (sealL s.data.toList) := by
        rw [List.take_of_length_le (by rw [hc]; simp), hc, tbytes_map]
        rfl
      have hl : s.size + 4 ≤ cs.length := by rw [hc]; simp
      first | with_reducible refine tw_reg_seq fun K hK => ?_ | (refine tw_seq_assoc ?_; with_reducible refine tw_reg_seq fun K hK => ?_)
      simp only [List.toList_toArray, List.append_eq, List.cons_append, List.nil_append]
      repeat (first | (first | with_reducible refine twL_go fun Cw cw => ?_ | with_reducible refine twL_yes rfl fun Cw cw => ?_); simp only [go_sem, ht, hl]; (first | refine cw _ _ ?_ | refine Or.inl (cw _ _ ?_)); clear cw Cw; simp only [tput, List.set_cons_zero, List.set_cons_succ] | (with_reducible refine twL_no _ rfl rfl ?_); simp only [tput, List.set_cons_zero, List.set_cons_succ])
      refine twL_nil.2 (hK _ _ ?_); clear hK K
      simp only [tw, TX.inBlock, TX.then, tpost, tresults, Tryz.f142, List.toList_toArray, tresultL, tresult1, ev, List.getElem?_cons_zero, List.getElem?_cons_succ, Option.map_some, Option.bind_some]
      refine ⟨?_, _, rfl⟩
      rfl

end Go.Proofs.YtbhhmnfjjnnkiaaGreat
