/- CrcBack: what was sealed is opened, and a sealed text of which one byte is another one is told. -/
import Derived.Test.YtceidfifaoooiaaRows
import Derived.WalkKit
import Derived.ProofKit
import Derived.OpenShut
import Derived.ShutString
import Derived.ChangeOld
import Derived.Below
import Derived.Test.YtceidfifaoooiaaC3
set_option linter.unusedVariables false
set_option linter.unusedSimpArgs false
set_option maxRecDepth 10000
namespace Go.Proofs.Ytceidfifaoooiaa.crcBackDone
open Go.TM

theorem bytes_eq {a b : ByteArray} (h : a.data.toList = b.data.toList) : a = b := by
  obtain ⟨⟨x⟩⟩ := a
  obtain ⟨⟨y⟩⟩ := b
  simp only at h
  rw [h]

theorem sealB_list (s : ByteArray) : (sealB s).data.toList = s.data.toList ++ (List.range 4).map (sumByte (sumB s.data.toList)) := by
  simp [sealB, sealL]

theorem extract_list (s : ByteArray) (n : Nat) : (s.extract 0 n).data.toList = s.data.toList.take n := by
  rw [ByteArray.data_extract]
  simp

theorem open_seal (s : ByteArray) : openB (sealB s) = (s, 0) := by
  have he : (sealB s).extract 0 ((sealB s).size - 4) = s := by
    apply bytes_eq
    rw [extract_list, sealB_list, sealB_size, Nat.add_sub_cancel, List.take_left' (data_length s)]
  unfold openB
  rw [if_neg (by rw [sealB_size]; omega), he, if_pos rfl]

theorem sumByte_ext {x y : BitVec 32} (h : ∀ i, i < 4 → sumByte x i = sumByte y i) : x = y := by
  ext j hj
  have h1 := congrArg (fun b : UInt8 => b.toBitVec.getLsbD (j % 8)) (h (j / 8) (by omega))
  simp only [sumByte, BitVec.getLsbD_setWidth, BitVec.getLsbD_ushiftRight] at h1
  have h2 : j % 8 < 8 := by omega
  have h3 : 8 * (j / 8) + j % 8 = j := by omega
  simpa [h2, h3, BitVec.getLsbD_eq_getElem hj] using h1

theorem bytes_inj {x y : BitVec 32} (h : (List.range 4).map (sumByte x) = (List.range 4).map (sumByte y)) : x = y := by
  refine sumByte_ext fun i hi => ?_
  have := congrArg (fun l => l[i]?) h
  simpa [hi] using this

/-- One byte is another one: it is told. -/
theorem open_told (s t : ByteArray) (i : Nat) (b : UInt8) (hi : i < s.size + 4) (ht : t.data.toList = (sealB s).data.toList.set i b) (hb : (sealB s).data.toList[i]? ≠ some b) :
    openB t = (⟨#[]⟩, 12) := by
  have hl : (sealB s).data.toList.length = s.size + 4 := by rw [data_length, sealB_size]
  have hs : t.size = s.size + 4 := by rw [← data_length, ht, List.length_set, hl]
  unfold openB
  rw [if_neg (by omega), if_neg]
  intro he
  have h1 : (sealB (t.extract 0 (t.size - 4))).data.toList = t.data.toList := by rw [he]
  rw [sealB_list, extract_list, hs, Nat.add_sub_cancel, ht, sealB_list] at h1
  have hd := data_length s
  rcases Nat.lt_or_ge i s.size with h | h
  · rw [List.set_append_left _ _ (by omega), List.take_left' (by rw [List.length_set]; exact hd)] at h1
    have h2 := List.append_cancel_left h1
    have h3 := bytes_inj h2
    rw [sealB_list, List.getElem?_append_left (by omega)] at hb
    unfold sumB at h3
    have h4 : foldB 0xFFFFFFFF#32 (s.data.toList.set i b) = foldB 0xFFFFFFFF#32 s.data.toList := by
      have h5 := congrArg (fun x => 0xFFFFFFFF#32 ^^^ x) h3
      simpa [← BitVec.xor_assoc] using h5
    have h6 : s.data.toList = s.data.toList.take i ++ s.data.toList[i] :: s.data.toList.drop (i + 1) := by
      rw [List.getElem_cons_drop, List.take_append_drop]
    have h7 : s.data.toList.set i b = s.data.toList.take i ++ b :: s.data.toList.drop (i + 1) := by
      rw [List.set_eq_take_append_cons_drop, if_pos (by omega)]
    have h8 : foldB 0xFFFFFFFF#32 (s.data.toList.take i ++ b :: s.data.toList.drop (i + 1)) = foldB 0xFFFFFFFF#32 (s.data.toList.take i ++ s.data.toList[i] :: s.data.toList.drop (i + 1)) := by
      rw [← h7, ← h6]; exact h4
    have h9 := foldB_told _ _ _ _ _ h8
    apply hb
    rw [List.getElem?_eq_getElem (by omega), ← h9]
  · rw [List.set_append_right _ _ (by omega), List.take_left' hd] at h1
    have h2 := List.append_cancel_left h1
    rw [sealB_list, List.getElem?_append_right (by omega)] at hb
    rw [hd] at h2 hb
    apply hb
    rw [h2, List.getElem?_set]
    simp
    omega

theorem back_walk (s : ByteArray) (at' : Int) (tu : Int) (h0 : 0 ≤ tu) (h1 : tu ≤ 255) : TCalls Try.prog 6 [.str s, .int .i64 at', .int .u8 tu] [] fun tv _ => tv = .bool true := by
  refine tcalls_of [1000053] Try.func6 (by kernel_rfl) rfl ?_
  show tw _ _ _ _ ([some _, some _, some _] ++ List.replicate 75 none) _
  simp only [List.replicate, List.cons_append, List.nil_append]
  first | with_reducible refine tw_reg_seq fun K hK => ?_ | (refine tw_seq_assoc ?_; with_reducible refine tw_reg_seq fun K hK => ?_)
  simp only [List.toList_toArray]
  repeat (with_reducible refine twL_step fun Cw cw => ?_; simp only [go_sem]; refine cw _ _ ?_; clear cw Cw; simp only [tput, List.set_cons_zero, List.set_cons_succ])
  refine twL_nil.2 (hK _ _ ?_); clear hK K
  first | with_reducible refine tw_reg_seq fun K hK => ?_ | (refine tw_seq_assoc ?_; with_reducible refine tw_reg_seq fun K hK => ?_)
  simp only [List.toList_toArray]
  repeat (with_reducible refine twL_step fun Cw cw => ?_; simp only [go_sem]; refine cw _ _ ?_; clear cw Cw; simp only [tput, List.set_cons_zero, List.set_cons_succ])
  refine twL_nil.2 (hK _ _ ?_); clear hK K
  refine tw_cond_seq rfl (fun h5 => ?_) (fun h5 => ?_)
  · first | with_reducible refine tw_reg_seq fun K hK => ?_ | (refine tw_seq_assoc ?_; with_reducible refine tw_reg_seq fun K hK => ?_)
    simp only [List.toList_toArray]
    repeat (with_reducible refine twL_step fun Cw cw => ?_; simp only [go_sem]; refine cw _ _ ?_; clear cw Cw; simp only [tput, List.set_cons_zero, List.set_cons_succ])
    with_reducible refine twL_step fun Cw cw => ?_
    simp only [go_sem]
    refine (awake_walk _).mono ?_
    rintro _ _ ⟨rfl, hg⟩
    refine cw _ _ ?_; clear cw Cw; simp only [tput, List.set_cons_zero, List.set_cons_succ]
    repeat (with_reducible refine twL_step fun Cw cw => ?_; simp only [go_sem]; refine cw _ _ ?_; clear cw Cw; simp only [tput, List.set_cons_zero, List.set_cons_succ])
    refine twL_nil.2 (hK _ _ ?_); clear hK K
    refine tw_ret_seq ?_
    simp only [tw, TX.inBlock, TX.then, tpost, tresults, Try.f6, List.toList_toArray, tresultL, tresult1, ev, List.getElem?_cons_zero, List.getElem?_cons_succ, Option.map_some, Option.bind_some]
  refine tw_skip_seq ?_
  simp only [decide_eq_false_iff_not] at h5
  have hz : (sealB s).size = s.size + 4 := sealB_size s
  first | with_reducible refine tw_reg_seq fun K hK => ?_ | (refine tw_seq_assoc ?_; with_reducible refine tw_reg_seq fun K hK => ?_)
  simp only [List.toList_toArray]
  repeat (with_reducible refine twL_step fun Cw cw => ?_; simp only [go_sem]; refine cw _ _ ?_; clear cw Cw; simp only [tput, List.set_cons_zero, List.set_cons_succ])
  with_reducible refine twL_step fun Cw cw => ?_
  simp only [go_sem]
  refine (seal_walk s _ (by omega)).mono ?_
  rintro _ σ1 ⟨rfl, hg⟩
  refine cw _ _ ?_; clear cw Cw; simp only [tput, List.set_cons_zero, List.set_cons_succ]
  repeat (with_reducible refine twL_step fun Cw cw => ?_; simp only [go_sem]; refine cw _ _ ?_; clear cw Cw; simp only [tput, List.set_cons_zero, List.set_cons_succ])
  refine twL_nil.2 (hK _ _ ?_); clear hK K
  first | with_reducible refine tw_reg_seq fun K hK => ?_ | (refine tw_seq_assoc ?_; with_reducible refine tw_reg_seq fun K hK => ?_)
  simp only [List.toList_toArray]
  repeat (with_reducible refine twL_step fun Cw cw => ?_; simp only [go_sem]; refine cw _ _ ?_; clear cw Cw; simp only [tput, List.set_cons_zero, List.set_cons_succ])
  with_reducible refine twL_step fun Cw cw => ?_
  simp only [go_sem]
  refine (open_walk (sealB s) _ (by omega)).mono ?_
  rintro _ σ2 ⟨rfl, hg⟩
  rw [open_seal]
  refine cw _ _ ?_; clear cw Cw; simp only [tput, List.set_cons_zero, List.set_cons_succ]
  repeat (with_reducible refine twL_step fun Cw cw => ?_; simp only [go_sem]; refine cw _ _ ?_; clear cw Cw; simp only [tput, List.set_cons_zero, List.set_cons_succ])
  refine twL_nil.2 (hK _ _ ?_); clear hK K
  have hw : IntKind.i64.wrap ((s.size : Int) + 4) = ((s.size + 4 : Nat) : Int) := by rw [wrap64_of (by omega) (by omega)]; omega
  first | with_reducible refine tw_reg_seq fun K hK => ?_ | (refine tw_seq_assoc ?_; with_reducible refine tw_reg_seq fun K hK => ?_)
  simp only [List.toList_toArray]
  repeat (with_reducible refine twL_step fun Cw cw => ?_; simp only [go_sem, hz, hw]; refine cw _ _ ?_; clear cw Cw; simp only [tput, List.set_cons_zero, List.set_cons_succ])
  refine twL_nil.2 (hK _ _ ?_); clear hK K
  refine tw_cond_seq rfl (fun h => by cases h) (fun _ => ?_)
  refine tw_skip_seq ?_
  by_cases hA : at' < 0
  · first | with_reducible refine tw_reg_seq fun K hK => ?_ | (refine tw_seq_assoc ?_; with_reducible refine tw_reg_seq fun K hK => ?_)
    simp only [List.toList_toArray]
    repeat (with_reducible refine twL_step fun Cw cw => ?_; simp only [go_sem, hA]; refine cw _ _ ?_; clear cw Cw; simp only [tput, List.set_cons_zero, List.set_cons_succ])
    refine twL_nil.2 (hK _ _ ?_); clear hK K
    refine tw_cond_seq rfl (fun h => ?_) (fun h => by cases h)
    first | with_reducible refine tw_reg_seq fun K hK => ?_ | (refine tw_seq_assoc ?_; with_reducible refine tw_reg_seq fun K hK => ?_)
    simp only [List.toList_toArray]
    repeat (with_reducible refine twL_step fun Cw cw => ?_; simp only [go_sem]; refine cw _ _ ?_; clear cw Cw; simp only [tput, List.set_cons_zero, List.set_cons_succ])
    with_reducible refine twL_step fun Cw cw => ?_
    simp only [go_sem]
    refine (awake_walk _).mono ?_
    rintro _ _ ⟨rfl, hg⟩
    refine cw _ _ ?_; clear cw Cw; simp only [tput, List.set_cons_zero, List.set_cons_succ]
    repeat (with_reducible refine twL_step fun Cw cw => ?_; simp only [go_sem]; refine cw _ _ ?_; clear cw Cw; simp only [tput, List.set_cons_zero, List.set_cons_succ])
    refine twL_nil.2 (hK _ _ ?_); clear hK K
    refine tw_ret_seq ?_
    simp only [tw, TX.inBlock, TX.then, tpost, tresults, Try.f6, List.toList_toArray, tresultL, tresult1, ev, List.getElem?_cons_zero, List.getElem?_cons_succ, Option.map_some, Option.bind_some]
  by_cases hB : at' ≥ ((s.size + 4 : Nat) : Int)
  · first | with_reducible refine tw_reg_seq fun K hK => ?_ | (refine tw_seq_assoc ?_; with_reducible refine tw_reg_seq fun K hK => ?_)
    simp only [List.toList_toArray]
    repeat (with_reducible refine twL_step fun Cw cw => ?_; simp only [go_sem, hA, hz, hB]; refine cw _ _ ?_; clear cw Cw; simp only [tput, List.set_cons_zero, List.set_cons_succ])
    refine twL_nil.2 (hK _ _ ?_); clear hK K
    refine tw_cond_seq rfl (fun h => ?_) (fun h => by cases h)
    first | with_reducible refine tw_reg_seq fun K hK => ?_ | (refine tw_seq_assoc ?_; with_reducible refine tw_reg_seq fun K hK => ?_)
    simp only [List.toList_toArray]
    repeat (with_reducible refine twL_step fun Cw cw => ?_; simp only [go_sem]; refine cw _ _ ?_; clear cw Cw; simp only [tput, List.set_cons_zero, List.set_cons_succ])
    with_reducible refine twL_step fun Cw cw => ?_
    simp only [go_sem]
    refine (awake_walk _).mono ?_
    rintro _ _ ⟨rfl, hg⟩
    refine cw _ _ ?_; clear cw Cw; simp only [tput, List.set_cons_zero, List.set_cons_succ]
    repeat (with_reducible refine twL_step fun Cw cw => ?_; simp only [go_sem]; refine cw _ _ ?_; clear cw Cw; simp only [tput, List.set_cons_zero, List.set_cons_succ])
    refine twL_nil.2 (hK _ _ ?_); clear hK K
    refine tw_ret_seq ?_
    simp only [tw, TX.inBlock, TX.then, tpost, tresults, Try.f6, List.toList_toArray, tresultL, tresult1, ev, List.getElem?_cons_zero, List.getElem?_cons_succ, Option.map_some, Option.bind_some]
  by_cases hC : tu = 0
  · subst hC
    first | with_reducible refine tw_reg_seq fun K hK => ?_ | (refine tw_seq_assoc ?_; with_reducible refine tw_reg_seq fun K hK => ?_)
    simp only [List.toList_toArray]
    repeat (with_reducible refine twL_step fun Cw cw => ?_; simp only [go_sem, hA, hz, hB]; refine cw _ _ ?_; clear cw Cw; simp only [tput, List.set_cons_zero, List.set_cons_succ])
    refine twL_nil.2 (hK _ _ ?_); clear hK K
    refine tw_cond_seq rfl (fun h => ?_) (fun h => by cases h)
    first | with_reducible refine tw_reg_seq fun K hK => ?_ | (refine tw_seq_assoc ?_; with_reducible refine tw_reg_seq fun K hK => ?_)
    simp only [List.toList_toArray]
    repeat (with_reducible refine twL_step fun Cw cw => ?_; simp only [go_sem]; refine cw _ _ ?_; clear cw Cw; simp only [tput, List.set_cons_zero, List.set_cons_succ])
    with_reducible refine twL_step fun Cw cw => ?_
    simp only [go_sem]
    refine (awake_walk _).mono ?_
    rintro _ _ ⟨rfl, hg⟩
    refine cw _ _ ?_; clear cw Cw; simp only [tput, List.set_cons_zero, List.set_cons_succ]
    repeat (with_reducible refine twL_step fun Cw cw => ?_; simp only [go_sem]; refine cw _ _ ?_; clear cw Cw; simp only [tput, List.set_cons_zero, List.set_cons_succ])
    refine twL_nil.2 (hK _ _ ?_); clear hK K
    refine tw_ret_seq ?_
    simp only [tw, TX.inBlock, TX.then, tpost, tresults, Try.f6, List.toList_toArray, tresultL, tresult1, ev, List.getElem?_cons_zero, List.getElem?_cons_succ, Option.map_some, Option.bind_some]
  have hCe : (tu == 0) = false := by simpa using hC
  first | with_reducible refine tw_reg_seq fun K hK => ?_ | (refine tw_seq_assoc ?_; with_reducible refine tw_reg_seq fun K hK => ?_)
  simp only [List.toList_toArray]
  repeat (with_reducible refine twL_step fun Cw cw => ?_; simp only [go_sem, hA, hz, hB, hCe]; refine cw _ _ ?_; clear cw Cw; simp only [tput, List.set_cons_zero, List.set_cons_succ])
  refine twL_nil.2 (hK _ _ ?_); clear hK K
  refine tw_cond_seq rfl (fun h => by cases h) (fun _ => ?_)
  refine tw_skip_seq ?_
  obtain ⟨i, rfl⟩ : ∃ i : Nat, at' = i := ⟨at'.toNat, by omega⟩
  have hi : i < s.size + 4 := by omega
  first | with_reducible refine tw_reg_seq fun K hK => ?_ | (refine tw_seq_assoc ?_; with_reducible refine tw_reg_seq fun K hK => ?_)
  simp only [List.toList_toArray]
  repeat (with_reducible refine twL_step fun Cw cw => ?_; simp only [go_sem]; refine cw _ _ ?_; clear cw Cw; simp only [tput, List.set_cons_zero, List.set_cons_succ])
  refine twL_nil.2 (hK _ _ ?_); clear hK K
  have hg0 : (σ2 ++ [TObj.cells (byteTVs (sealB s))])[σ2.length]? = some (.cells (byteTVs (sealB s))) := by simp
  have hlt : i < (sealB s).data.toList.length := by rw [data_length]; omega
  have hi2 : i < (byteTVs (sealB s)).length := by rw [byteTVs_length]; omega
  have hi3 : i + 1 ≤ (byteTVs (sealB s)).length := by omega
  have hb : (List.drop i (byteTVs (sealB s)))[0]? = some (.int .u8 (sealB s).data.toList[i].toNat) := by
    rw [List.getElem?_drop, ← byteTVs_get _ i hlt]
    congr 1
  first | with_reducible refine tw_reg_seq fun K hK => ?_ | (refine tw_seq_assoc ?_; with_reducible refine tw_reg_seq fun K hK => ?_)
  simp only [List.toList_toArray]
  repeat (with_reducible refine twL_step fun Cw cw => ?_; simp only [go_sem, hg0, hz, hi, hi2, hi3, hb]; refine cw _ _ ?_; clear cw Cw; simp only [tput, List.set_cons_zero, List.set_cons_succ])
  refine twL_nil.2 (hK _ _ ?_); clear hK K
  have hset : ∀ X : TObj, List.set (σ2 ++ [TObj.cells (byteTVs (sealB s))]) σ2.length X = σ2 ++ [X] := by intro X; simp
  rw [hset]
  obtain ⟨y, rfl⟩ : ∃ y : BitVec 8, tu = (y.toNat : Int) := ⟨BitVec.ofNat 8 tu.toNat, by rw [BitVec.toNat_ofNat]; omega⟩
  have hx : ixor .u8 ((sealB s).data.toList[i].toNat : Int) (y.toNat : Int) = ((UInt8.ofBitVec ((sealB s).data.toList[i].toBitVec ^^^ y)).toNat : Int) :=
    ixor_u8_bits (sealB s).data.toList[i].toBitVec y
  rw [hx]
  have hne : (sealB s).data.toList[i]? ≠ some (UInt8.ofBitVec ((sealB s).data.toList[i].toBitVec ^^^ y)) := by
    rw [List.getElem?_eq_getElem hlt]
    intro he
    apply hC
    have h2 := congrArg UInt8.toBitVec (Option.some.inj he)
    have h3 : (sealB s).data.toList[i].toBitVec ^^^ (sealB s).data.toList[i].toBitVec = (sealB s).data.toList[i].toBitVec ^^^ ((sealB s).data.toList[i].toBitVec ^^^ y) := congrArg _ h2
    rw [← BitVec.xor_assoc, BitVec.xor_self, BitVec.zero_xor] at h3
    rw [← h3]
    rfl
  generalize UInt8.ofBitVec ((sealB s).data.toList[i].toBitVec ^^^ y) = b at hne ⊢
  have hsp : splice (byteTVs (sealB s)) i [TV.int .u8 (b.toNat : Int)] = ((sealB s).data.toList.set i b).map fun b => .int .u8 b.toNat := by
    rw [List.map_set, List.set_eq_take_append_cons_drop, if_pos (by rw [List.length_map]; exact hlt)]
    unfold splice byteTVs
    simp
  rw [hsp]
  have hg1 : (σ2 ++ [TObj.cells (((sealB s).data.toList.set i b).map fun b => .int .u8 b.toNat)])[σ2.length]? = some (.cells (((sealB s).data.toList.set i b).map fun b => .int .u8 b.toNat)) := by simp
  have hll : (((sealB s).data.toList.set i b).map fun b : UInt8 => TV.int .u8 b.toNat).length = s.size + 4 := by rw [List.length_map, List.length_set, data_length, hz]
  have htk : tbytes (List.take (s.size + 4) (((sealB s).data.toList.set i b).map fun b => .int .u8 b.toNat)) = some ((sealB s).data.toList.set i b) := by
    rw [List.take_of_length_le (by rw [hll]; exact Nat.le_refl _), tbytes_map]
  have hl2 : s.size + 4 ≤ (((sealB s).data.toList.set i b).map fun b : UInt8 => TV.int .u8 b.toNat).length := by rw [hll]; exact Nat.le_refl _
  have hto := open_told s ⟨((sealB s).data.toList.set i b).toArray⟩ i b hi rfl hne
  have hsz : (⟨((sealB s).data.toList.set i b).toArray⟩ : ByteArray).size = s.size + 4 := by rw [← data_length]; show (List.set _ _ _).length = _; rw [List.length_set, data_length, hz]
  first | with_reducible refine tw_reg_seq fun K hK => ?_ | (refine tw_seq_assoc ?_; with_reducible refine tw_reg_seq fun K hK => ?_)
  simp only [List.toList_toArray]
  repeat (with_reducible refine twL_step fun Cw cw => ?_; simp only [go_sem, hg1, hz, htk, hl2]; refine cw _ _ ?_; clear cw Cw; simp only [tput, List.set_cons_zero, List.set_cons_succ])
  with_reducible refine twL_step fun Cw cw => ?_
  simp only [go_sem, hg1, hz, htk, hl2]
  refine (open_walk _ _ (by rw [hsz]; omega)).mono ?_
  rintro _ σ3 ⟨rfl, hg⟩
  rw [hto]
  refine cw _ _ ?_; clear cw Cw; simp only [tput, List.set_cons_zero, List.set_cons_succ]
  repeat (with_reducible refine twL_step fun Cw cw => ?_; simp only [go_sem]; refine cw _ _ ?_; clear cw Cw; simp only [tput, List.set_cons_zero, List.set_cons_succ])
  refine twL_nil.2 (hK _ _ ?_); clear hK K
  first | with_reducible refine tw_reg_seq fun K hK => ?_ | (refine tw_seq_assoc ?_; with_reducible refine tw_reg_seq fun K hK => ?_)
  simp only [List.toList_toArray]
  repeat (with_reducible refine twL_step fun Cw cw => ?_; simp only [go_sem]; refine cw _ _ ?_; clear cw Cw; simp only [tput, List.set_cons_zero, List.set_cons_succ])
  with_reducible refine twL_step fun Cw cw => ?_
  simp only [go_sem]
  refine (awake_walk _).mono ?_
  rintro _ _ ⟨rfl, hg⟩
  refine cw _ _ ?_; clear cw Cw; simp only [tput, List.set_cons_zero, List.set_cons_succ]
  repeat (with_reducible refine twL_step fun Cw cw => ?_; simp only [go_sem]; refine cw _ _ ?_; clear cw Cw; simp only [tput, List.set_cons_zero, List.set_cons_succ])
  refine twL_nil.2 (hK _ _ ?_); clear hK K
  simp only [tw, TX.inBlock, TX.then, tpost, tresults, Try.f6, List.toList_toArray, tresultL, tresult1, ev, List.getElem?_cons_zero, List.getElem?_cons_succ, Option.map_some, Option.bind_some]

theorem calls (tvs : List TV) (h : TyAll (mkTab Try.prog) 3 Try.f6.params.toList tvs) : TCalls Try.prog 6 tvs [] fun tv _ => tv = .bool true := by
  rw [show Try.f6.params.toList = [9, 3, 5] by kernel_rfl] at h
  obtain ⟨a, _, rfl, ha, h⟩ := TyAll_cons h
  obtain ⟨b, _, rfl, hb, h⟩ := TyAll_cons h
  obtain ⟨c, _, rfl, hc, h⟩ := TyAll_cons h
  obtain rfl := TyAll_nil h
  obtain ⟨s, rfl, hs⟩ := TyV_str tab9 rfl ha
  obtain ⟨n, rfl, -, -⟩ := TyV_int tab3 rfl hb
  obtain ⟨u, rfl, h0, h1⟩ := TyV_int tab5 rfl hc
  exact back_walk s n u h0 h1

open Go.ChangeShapes Go.WideShapes Go.ChangeAt Go.RowKit
theorem own : ownKnob Try.prog.godebug = none := by kernel_rfl
theorem laidOut : laidOutB Try.prog = true := by kernel_rfl
set_option maxRecDepth 100000 in
theorem lifted (os : Os) (started : os.Started) (H : Type) (enc : TypeId × Value → H) :
    ReturnsInHanded {} Try.checked os 6 .any (Rows.crcBackSpec.pre6 enc Try.prog Try.f6 Rows.crcBackRow.domain false) (Rows.crcBackSpec.post enc Try.prog Try.f6 false true false false) := by
  refine returnsInHanded_of_change (C := Try.checked) own started (by kernel_rfl) Try.func6
    (ChangeSpec.witness6 (enc := enc) (C := Try.checked) false ⟨#[], #[.string ⟨#[]⟩, .int .i64 0, .int .u8 0], []⟩ 8 (by kernel_rfl) (by kernel_rfl) (by kernel_rfl) (by kernel_rfl)) ?_
  intro W base args ds gs before hval hW hcnd _
  exact law_contract (rt := 4) 3 laidOut rfl (by intro ds h; match ds, h with | [_, _, _], _ => rfl) (by kernel_rfl) (by kernel_rfl) (by kernel_rfl) (by kernel_rfl) calls W base args ds gs before hval hW
theorem over : Rows.crcBackRow.holds Try.pinned (OpenSpec.ofChange Rows.crcBackSpec) :=
  OpenClaim.holds_of_wide 6 Try.f6 rfl rfl rfl rfl rfl rfl rfl ⟨rfl, rfl, rfl, rfl, rfl⟩ rfl rfl rfl rfl rfl (by kernel_rfl) Try.func6 (by kernel_rfl)
    (of_decide_eq_true (by kernel_rfl)) (by unfold Func.isWrapper; first | (rw [if_pos (by decide +kernel)]; kernel_rfl) | (rw [if_neg (by decide +kernel)]; exact ⟨rfl, rfl⟩))
    (fun os started H enc _ => lifted os started H enc)
theorem proved : Rows.CrcBackSaid := over
end Go.Proofs.Ytceidfifaoooiaa.crcBackDone
