/- Texts as lists of bytes, and what the machine's words do with them. -/
import Derived.Test.YtkmcbaihemaoeaaGreatTab
import Derived.Test.YtkmcbaihemaoeaaGreatT50
set_option linter.unusedVariables false
set_option linter.unusedSimpArgs false
set_option maxRecDepth 10000
namespace Go.Proofs.YtkmcbaihemaoeaaGreat
open Go.TM

abbrev B (l : List UInt8) : ByteArray := ⟨l.toArray⟩
abbrev bv (b : UInt8) : TV := .int .u8 b.toNat
abbrev bC (b : UInt8) : List TV := [bv b]
def bvL (l : List UInt8) : List TV := l.map bv

theorem B_size (l : List UInt8) : (B l).size = l.length := by simp [B, ByteArray.size]
theorem B_of (s : ByteArray) : s = B s.data.toList := rfl
theorem B_inj {a b : List UInt8} : B a = B b ↔ a = b := by
  constructor
  · intro h
    have := congrArg (fun s : ByteArray => s.data.toList) h
    simpa using this
  · rintro rfl; rfl
theorem B_add (a b : List UInt8) : B a ++ B b = B (a ++ b) := by
  have : (B a ++ B b).data.toList = a ++ b := by rw [ByteArray.data_append, Array.toList_append]
  rw [B_of (B a ++ B b), this]
theorem B_extract (l : List UInt8) (i j : Nat) : (B l).extract i j = B ((l.take j).drop i) := by
  have : ((B l).extract i j).data.toList = (l.take j).drop i := by
    rw [ByteArray.data_extract]
    simp [Array.toList_extract, List.extract_eq_take_drop, List.drop_take]
  rw [B_of ((B l).extract i j), this]
theorem byteTVs_B (l : List UInt8) : byteTVs (B l) = bvL l := by simp [byteTVs, bvL, bv]
theorem bvL_one (l : List UInt8) : (bvL l).all TV.one = true := by
  rw [List.all_eq_true]
  intro v hv
  obtain ⟨b, _, rfl⟩ := List.mem_map.1 hv
  rfl
theorem bvL_len (l : List UInt8) : (bvL l).length = l.length := List.length_map _
theorem bvL_append (a b : List UInt8) : bvL (a ++ b) = bvL a ++ bvL b := List.map_append
@[go_sem] theorem bvL_fits {n : Nat} (l : List UInt8) : TV.fitsL n (bvL l) = true := by
  induction l with
  | nil => rfl
  | cons x l ih => rw [bvL, List.map_cons, ← bvL]; simp only [TV.fitsL, TV.fits, ih, Bool.and_self]
theorem tbytes_bvL (l : List UInt8) : tbytes (bvL l) = some l := by
  induction l with
  | nil => rfl
  | cons x l ih => rw [bvL, List.map_cons, ← bvL]; simp only [tbytes, ih, Int.toNat_natCast, UInt8.ofNat_toNat]

section
variable {cst : Bool} {a b l : List UInt8} {lo hi : Nat} {k : IntKind} {n : Int} {σ : TS} {w mu : Bool}
@[go_sem ↓] theorem lenB : tlenOp (mkTab Tryz.prog) 9 (.str (B l)) = some (.int .i64 l.length) := by
  rw [tlen_str tab9 rfl, B_size]
@[go_sem ↓] theorem addB (h : a.length + b.length ≤ 9223372036854775807) : tbin (mkTab Tryz.prog) cst .add 9 (.str (B a)) (.str (B b)) = some (.str (B (a ++ b))) := by
  show ofSem (Op.stringOp .add (B a) (B b)) = _
  rw [str_add, if_neg, B_add]
  rw [B_size, B_size]
  show ¬ (((a.length + b.length : Nat) : Int) > 9223372036854775807)
  omega
@[go_sem ↓] theorem eqB : tbin (mkTab Tryz.prog) cst .eql 9 (.str (B a)) (.str (B b)) = some (.bool (decide (a = b))) := by
  show ofSem (Op.stringOp .eql (B a) (B b)) = _
  rw [str_eql]
  simp only [B_inj]
@[go_sem ↓] theorem neqB : tbin (mkTab Tryz.prog) cst .neq 9 (.str (B a)) (.str (B b)) = some (.bool (!decide (a = b))) := by
  show ofSem (Op.stringOp .neq (B a) (B b)) = _
  rw [str_neq]
  simp only [B_inj]
@[go_sem ↓] theorem cutB (h0 : lo ≤ hi) (h1 : hi ≤ l.length) : tslice (mkTab Tryz.prog) 9 (.str (B l)) (some lo) (some hi) none = some (.str (B ((l.take hi).drop lo))) := by
  unfold tslice
  simp only [tab9, Option.getD_some, B_size, true_and]
  rw [if_pos ⟨h0, h1⟩, B_extract]
@[go_sem ↓] theorem cuthB (h1 : hi ≤ l.length) : tslice (mkTab Tryz.prog) 9 (.str (B l)) none (some hi) none = some (.str (B (l.take hi))) := by
  unfold tslice
  simp only [tab9, Option.getD_some, Option.getD_none, B_size, true_and]
  rw [if_pos ⟨Nat.zero_le _, h1⟩, B_extract, List.drop_zero]
@[go_sem ↓] theorem cutlB (h1 : lo ≤ l.length) : tslice (mkTab Tryz.prog) 9 (.str (B l)) (some lo) none none = some (.str (B (l.drop lo))) := by
  unfold tslice
  simp only [tab9, Option.getD_some, Option.getD_none, B_size, true_and]
  rw [if_pos ⟨h1, Nat.le_refl _⟩, B_extract, List.take_length]
@[go_sem ↓] theorem ixB (h0 : 0 ≤ n) (h1 : n < l.length) : tindex (mkTab Tryz.prog) 9 (.str (B l)) (.int k n) = some (.int .u8 (nth l n.toNat).toNat) := by
  have h2 : n.toNat < l.length := by omega
  have h3 : (B l)[n.toNat]? = some (nth l n.toNat) := by
    rw [nth_eq h2]
    have h4 : n.toNat < (B l).size := by rw [B_size]; exact h2
    rw [getElem?_pos (B l) n.toNat h4]
    rfl
  unfold tindex
  simp only [tab9, h3]
  rw [if_pos h0]
@[go_sem ↓] theorem convSB {own : Option (Nat × Nat)} {m : Nat} (h : m = l.length) : tconv (mkTab Tryz.prog) w mu σ 301 9 (.sl own m (bvL l)) = some (.str (B l), σ) := by
  subst h
  unfold tconv
  simp only [tab301, tab9, tab5, tslcells, tlen]
  rw [List.take_of_length_le (by rw [bvL_len]; exact Nat.le_refl _), tbytes_bvL, bvL_len]
  simp only [Nat.le_refl, if_true]
@[go_sem ↓] theorem convNB : tconv (mkTab Tryz.prog) w mu σ 301 9 .nils = some (.str (B []), σ) := by
  unfold tconv
  simp only [tab301, tab9, tab5, tslcells, tlen, List.take_nil, tbytes, List.length_nil, Nat.le_refl, if_true]
@[go_sem ↓] theorem convBS : tconv (mkTab Tryz.prog) false false σ 9 301 (.str (B l)) = some (.sl none l.length (bvL l), σ) := by
  unfold tconv
  simp only [tab301, tab9, tab5, Bool.false_eq_true, if_false, tright, byteTVs_B, B_size]
theorem convMB {p m : Nat} {cs : List TV} (h : σ[p]? = some (.cells cs)) (hc : cs = bvL l) (hm : m = l.length) : tconv (mkTab Tryz.prog) w mu σ 301 9 (.msl p 0 m) = some (.str (B l), σ) := by
  subst hm hc
  unfold tconv
  simp only [tab301, tab9, tab5, tslcells, tlen, h, List.drop_zero]
  rw [List.take_of_length_le (by rw [bvL_len]; exact Nat.le_refl _), tbytes_bvL, bvL_len]
  simp only [Nat.le_refl, if_true]
end

theorem snoc_ind {α : Type} {p : List α → Prop} (h0 : p []) (h1 : ∀ l x, p l → p (l ++ [x])) (l : List α) : p l := by
  rw [← List.reverse_reverse l]
  induction l.reverse with
  | nil => exact h0
  | cons x l ih => rw [List.reverse_cons]; exact h1 _ _ ih

/- numbers as bytes -/
def b8 (n : Int) : UInt8 := UInt8.ofNat (n % 256).toNat
theorem b8_toNat (n : Int) : ((b8 n).toNat : Int) = n % 256 := by
  unfold b8
  rw [UInt8.toNat_ofNat']
  omega
theorem wrap_b8 (n : Int) : IntKind.u8.wrap n = ((b8 n).toNat : Int) := by
  rw [b8_toNat]
  unfold IntKind.wrap
  simp only [IntKind.bits, IntKind.signed, Bool.false_and, Bool.false_eq_true, if_false]
  omega
theorem b8_mod (n m : Int) (h : n % 256 = m % 256) : b8 n = b8 m := by unfold b8; rw [h]
theorem b8_of (b : UInt8) : b8 (b.toNat : Int) = b := by
  apply UInt8.toNat_inj.1
  have := b8_toNat (b.toNat : Int)
  have := b.toNat_lt
  omega

/-- A number in so many bytes, the highest ones first. -/
def be : Nat → Int → List UInt8
  | 0, _ => []
  | k + 1, n => be k (n / 256) ++ [b8 n]
theorem be_len : ∀ (k : Nat) (n : Int), (be k n).length = k
  | 0, _ => rfl
  | k + 1, n => by rw [be, List.length_append, be_len k]; rfl
/-- The number of bytes. -/
def un : List UInt8 → Int := List.foldl (fun n b => 256 * n + b.toNat) 0
theorem un_snoc (l : List UInt8) (b : UInt8) : un (l ++ [b]) = 256 * un l + b.toNat := by simp [un, List.foldl_append]
theorem un_nonneg (l : List UInt8) : 0 ≤ un l :=
  snoc_ind (p := fun l => 0 ≤ un l) (Int.le_refl _) (fun l b ih => by rw [un_snoc]; omega) l
theorem un_be : ∀ (k : Nat) (n : Int), 0 ≤ n → n < 256 ^ k → un (be k n) = n
  | 0, n, h0, h1 => by simp at h1; simp [be, un]; omega
  | k + 1, n, h0, h1 => by
    have h2 : n / 256 < 256 ^ k := by
      rw [Int.pow_succ] at h1
      omega
    rw [be, un_snoc, un_be k (n / 256) (by omega) h2, b8_toNat]
    omega
theorem be_un (l : List UInt8) : be l.length (un l) = l := by
  refine snoc_ind (p := fun l => be l.length (un l) = l) rfl (fun l b ih => ?_) l
  · skip
    have hb := b.toNat_lt
    have h0 := un_nonneg l
    rw [List.length_append, List.length_singleton, be, un_snoc]
    have h1 : (256 * un l + (b.toNat : Int)) / 256 = un l := by omega
    have h2 : b8 (256 * un l + (b.toNat : Int)) = b := by
      rw [b8_mod _ (b.toNat : Int) (by omega), b8_of]
    rw [h1, h2, ih]
theorem un_lt (l : List UInt8) : un l < 256 ^ l.length := by
  refine snoc_ind (p := fun l => un l < 256 ^ l.length) (by decide) (fun l b ih => ?_) l
  · skip
    have hb := b.toNat_lt
    rw [un_snoc, List.length_append, List.length_singleton, Int.pow_succ]
    omega
theorem be2 (n : Int) : be 2 n = [b8 (n / 256), b8 n] := rfl
theorem be1 (n : Int) : be 1 n = [b8 n] := rfl
theorem be4 (n : Int) : be 4 n = [b8 (n / 256 / 256 / 256), b8 (n / 256 / 256), b8 (n / 256), b8 n] := rfl
end Go.Proofs.YtkmcbaihemaoeaaGreat
