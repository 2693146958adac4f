/- Ether: a frame of which one byte is another one is told; the two networks' frames. -/
import Derived.Test.YtgkcackpffimmaaH10
set_option linter.unusedVariables false
set_option linter.unusedSimpArgs false
set_option maxRecDepth 10000
set_option maxHeartbeats 4000000
namespace Go.Proofs.Ytgkcackpffimmaa
open Go.TM

theorem sumByte_ext {x y : BitVec 32} (h : ∀ i, i < 4 → sumByte x i = sumByte y i) : x = y := by
  ext j hj
  have h1 := congrArg (fun b : UInt8 => b.toBitVec.getLsbD (j % 8)) (h (j / 8) (by omega))
  simp only [sumByte, BitVec.getLsbD_setWidth, BitVec.getLsbD_ushiftRight] at h1
  have h2 : j % 8 < 8 := by omega
  have h3 : 8 * (j / 8) + j % 8 = j := by omega
  simpa [h2, h3, BitVec.getLsbD_eq_getElem hj] using h1

theorem bytes_inj {x y : BitVec 32} (h : (List.range 4).map (sumByte x) = (List.range 4).map (sumByte y)) : x = y := by
  refine sumByte_ext fun i hi => ?_
  have := congrArg (fun l => l[i]?) h
  simpa [hi] using this

theorem sum_told {p q : List UInt8} {a b : UInt8} (h : (List.range 4).map (sumByte (sumB (p ++ a :: q))) = (List.range 4).map (sumByte (sumB (p ++ b :: q)))) : a = b := by
  have h3 := bytes_inj h
  unfold sumB at h3
  have h4 : foldB 0xFFFFFFFF#32 (p ++ a :: q) = foldB 0xFFFFFFFF#32 (p ++ b :: q) := by
    have h5 := congrArg (fun x => 0xFFFFFFFF#32 ^^^ x) h3
    simpa [← BitVec.xor_assoc] using h5
  exact foldB_told _ _ _ _ _ h4

theorem split_at {l : List UInt8} {i : Nat} (h : i < l.length) : l = l.take i ++ l[i] :: l.drop (i + 1) := by
  rw [List.getElem_cons_drop, List.take_append_drop]
theorem set_at {l : List UInt8} {i : Nat} (h : i < l.length) (b : UInt8) : l.set i b = l.take i ++ b :: l.drop (i + 1) := by
  rw [List.set_eq_take_append_cons_drop, if_pos h]

/-- One byte is another one: it is told. -/
theorem openL_told {l : List UInt8} {i : Nat} {b : UInt8} (hi : i < l.length + 4) (hb : (sealL l)[i]? ≠ some b) : openL ((sealL l).set i b) = ([], 12) := by
  have hl := sealL_len l
  rw [openL, if_neg (by rw [List.length_set]; omega), if_neg]
  rw [List.length_set, hl, Nat.add_sub_cancel]
  intro h1
  rcases Nat.lt_or_ge i l.length with h | h
  · have h0 : (sealL l).set i b = l.set i b ++ (List.range 4).map (sumByte (sumB l)) := by
      rw [sealL, List.set_append_left _ _ h]
    rw [h0, List.take_left' (by rw [List.length_set]), sealL] at h1
    have h2 := List.append_cancel_left h1
    have h3 := set_at h b
    have h4 := split_at h
    have h5 : b = l[i] := by
      apply sum_told (p := l.take i) (q := l.drop (i + 1))
      rw [← h3, ← h4]; exact h2
    apply hb
    rw [sealL, List.getElem?_append_left h, List.getElem?_eq_getElem h, h5]
  · have h0 : (sealL l).set i b = l ++ ((List.range 4).map (sumByte (sumB l))).set (i - l.length) b := by
      rw [sealL, List.set_append_right _ _ h]
    rw [h0, List.take_left' rfl, sealL] at h1
    have h2 := List.append_cancel_left h1
    apply hb
    rw [sealL, List.getElem?_append_right h, h2, List.getElem?_set]
    simp
    omega

theorem decL_told {f : Frm} {i : Nat} {b : UInt8} (h : (encL f).2 = 0) (hi : i < (encL f).1.length) (hb : (encL f).1[i]? ≠ some b) : decL ((encL f).1.set i b) = (⟨0, 0, 0, 0, []⟩, 12) := by
  have hl := encL_len h
  obtain ⟨h1, h2, h3⟩ := encL_ok h
  have h4 : (encL f).1 = sealL (bodyL f) := by rw [h3]
  rw [h4] at hl hi hb ⊢
  have ho := openL_told (l := bodyL f) (i := i) (b := b) (by rw [sealL_len] at hi; exact hi) hb
  rw [decL, if_neg (by rw [List.length_set]; omega), if_neg (by rw [List.length_set]; omega), ho, if_pos (by decide)]

/-- A frame on a network. -/
abbrev onNet (f : Frm) (n : Int) : Frm := { f with net := n }
theorem sides_err (f : Frm) : (encL (onNet f 0)).2 = (encL (onNet f 1)).2 := by
  have : ArgsOk (onNet f 0) ↔ ArgsOk (onNet f 1) := by
    simp only [ArgsOk]
    constructor <;> (rintro ⟨h1, ⟨h2, h3, h4⟩, h5⟩; exact ⟨h1, ⟨h2, h3, by simp⟩, h5⟩)
  have hd : (onNet f 0).data = (onNet f 1).data := rfl
  rw [encL, encL]
  by_cases h : ArgsOk (onNet f 0)
  · have h' := this.1 h
    have n0 : ¬ ¬ ArgsOk (onNet f 0) := fun e => e h
    have n1 : ¬ ¬ ArgsOk (onNet f 1) := fun e => e h'
    rw [if_neg n0, if_neg n1, hd]
    split <;> rfl
  · rw [if_pos h, if_pos (fun e => h (this.2 e))]

structure SidesOk (s t : List UInt8) : Prop where
  len : s.length = t.length
  short : 64 ≤ s.length
  long : s.length ≤ 1518
  front : s.take 11 = t.take 11
  mid : (s.take (s.length - 4)).drop 12 = (t.take (s.length - 4)).drop 12
  a : nth s 11 = 32
  b : nth t 11 = 64
  tail : s.drop (s.length - 4) ≠ t.drop (s.length - 4)

theorem sides_ok {f : Frm} (h : (encL (onNet f 0)).2 = 0) : SidesOk (encL (onNet f 0)).1 (encL (onNet f 1)).1 := by
  have h' : (encL (onNet f 1)).2 = 0 := by rw [← sides_err]; exact h
  have l0 := encL_len h
  have l1 := encL_len h'
  obtain ⟨a1, a2, a3⟩ := encL_ok h
  obtain ⟨b1, b2, b3⟩ := encL_ok h'
  have e0 : (encL (onNet f 0)).1 = sealL (bodyL (onNet f 0)) := by rw [a3]
  have e1 : (encL (onNet f 1)).1 = sealL (bodyL (onNet f 1)) := by rw [b3]
  rw [e0] at l0 ⊢
  rw [e1] at l1 ⊢
  have hd : (onNet f 0).data = f.data := rfl
  have hd' : (onNet f 1).data = f.data := rfl
  rw [hd] at l0
  rw [hd'] at l1
  have hb0 : bodyL (onNet f 0) = [3, 0, 0, 0, b8 (f.vl / 256), b8 f.vl, 2, 0, 0, b8 (f.from_ / 256), b8 f.from_] ++ (32 : UInt8) :: (8 :: 0 :: (padL f ++ [b8 f.seq])) := by rw [bodyL_eq]; rfl
  have hb1 : bodyL (onNet f 1) = [3, 0, 0, 0, b8 (f.vl / 256), b8 f.vl, 2, 0, 0, b8 (f.from_ / 256), b8 f.from_] ++ (64 : UInt8) :: (8 :: 0 :: (padL f ++ [b8 f.seq])) := by rw [bodyL_eq]; rfl
  have c0 := sealL_len (bodyL (onNet f 0))
  have c1 := sealL_len (bodyL (onNet f 1))
  refine ⟨by omega, by omega, by omega, ?_, ?_, ?_, ?_, ?_⟩
  · rw [sealL, sealL, hb0, hb1]; rfl
  · rw [show (sealL (bodyL (onNet f 0))).length - 4 = (bodyL (onNet f 0)).length by omega, sealL_take]
    rw [show (bodyL (onNet f 0)).length = (bodyL (onNet f 1)).length by omega, sealL_take, hb0, hb1]; rfl
  · rw [sealL, hb0]; rfl
  · rw [sealL, hb1]; rfl
  · intro e
    rw [show (sealL (bodyL (onNet f 0))).length - 4 = (bodyL (onNet f 0)).length by omega, sealL, List.drop_left' rfl] at e
    rw [show (bodyL (onNet f 0)).length = (bodyL (onNet f 1)).length by omega, sealL, List.drop_left' rfl, hb0, hb1] at e
    exact absurd (sum_told e) (by decide)
end Go.Proofs.Ytgkcackpffimmaa
