/- Sealed texts: what seals and opens, and that another byte is told. -/
import Derived.Test.YtkmcbaihemaoeaaGreatC3
import Derived.Test.YtkmcbaihemaoeaaGreatD2
set_option linter.unusedVariables false
set_option linter.unusedSimpArgs false
set_option maxRecDepth 10000
set_option maxHeartbeats 4000000
namespace Go.Proofs.YtkmcbaihemaoeaaGreat
open Go.TM

/- sealed texts -/
theorem sealB_B (l : List UInt8) : sealB (B l) = B (sealL l) := rfl
theorem sealL_len (l : List UInt8) : (sealL l).length = l.length + 4 := by simp [sealL]
def openL (s : List UInt8) : List UInt8 × Int := if s.length < 4 then ([], 10) else if sealL (s.take (s.length - 4)) = s then (s.take (s.length - 4), 0) else ([], 12)
theorem openB_B (s : List UInt8) : openB (B s) = (B (openL s).1, (openL s).2) := by
  unfold openB openL
  rw [B_size, B_extract, List.drop_zero, sealB_B]
  simp only [B_inj]
  split
  · rfl
  · split <;> rfl

theorem seal_pure (l : List UInt8) (σ : TS) (h : l.length ≤ 100000) : TPure Tryz.prog 186 [.str (B l)] σ (.str (B (sealL l))) :=
  TCalls.pure (seal_walk (B l) σ (by rw [B_size]; exact h)) fun tv s q => by
    obtain ⟨rfl, hg⟩ := q
    exact ⟨hg, rfl, rfl, rfl⟩
theorem open_pure (l : List UInt8) (σ : TS) (h : l.length ≤ 100000) : TPure Tryz.prog 103 [.str (B l)] σ (.tup [.str (B (openL l).1), .int .i64 (openL l).2]) :=
  TCalls.pure (open_walk (B l) σ (by rw [B_size]; exact h)) fun tv s q => by
    obtain ⟨rfl, hg⟩ := q
    rw [openB_B]
    exact ⟨hg, rfl, rfl, rfl⟩
theorem sumByte_ext {x y : BitVec 32} (h : ∀ i, i < 4 → sumByte x i = sumByte y i) : x = y := by
  ext j hj
  have h1 := congrArg (fun b : UInt8 => b.toBitVec.getLsbD (j % 8)) (h (j / 8) (by omega))
  simp only [sumByte, BitVec.getLsbD_setWidth, BitVec.getLsbD_ushiftRight] at h1
  have h2 : j % 8 < 8 := by omega
  have h3 : 8 * (j / 8) + j % 8 = j := by omega
  simpa [h2, h3, BitVec.getLsbD_eq_getElem hj] using h1

theorem bytes_inj {x y : BitVec 32} (h : (List.range 4).map (sumByte x) = (List.range 4).map (sumByte y)) : x = y := by
  refine sumByte_ext fun i hi => ?_
  have := congrArg (fun l => l[i]?) h
  simpa [hi] using this

theorem sum_told {p q : List UInt8} {a b : UInt8} (h : (List.range 4).map (sumByte (sumB (p ++ a :: q))) = (List.range 4).map (sumByte (sumB (p ++ b :: q)))) : a = b := by
  have h3 := bytes_inj h
  unfold sumB at h3
  have h4 : foldB 0xFFFFFFFF#32 (p ++ a :: q) = foldB 0xFFFFFFFF#32 (p ++ b :: q) := by
    have h5 := congrArg (fun x => 0xFFFFFFFF#32 ^^^ x) h3
    simpa [← BitVec.xor_assoc] using h5
  exact foldB_told _ _ _ _ _ h4

theorem split_at {l : List UInt8} {i : Nat} (h : i < l.length) : l = l.take i ++ l[i] :: l.drop (i + 1) := by
  rw [List.getElem_cons_drop, List.take_append_drop]
theorem set_at {l : List UInt8} {i : Nat} (h : i < l.length) (b : UInt8) : l.set i b = l.take i ++ b :: l.drop (i + 1) := by
  rw [List.set_eq_take_append_cons_drop, if_pos h]

/-- One byte is another one: it is told. -/
theorem openL_told {l : List UInt8} {i : Nat} {b : UInt8} (hi : i < l.length + 4) (hb : (sealL l)[i]? ≠ some b) : openL ((sealL l).set i b) = ([], 12) := by
  have hl := sealL_len l
  rw [openL, if_neg (by rw [List.length_set]; omega), if_neg]
  rw [List.length_set, hl, Nat.add_sub_cancel]
  intro h1
  rcases Nat.lt_or_ge i l.length with h | h
  · have h0 : (sealL l).set i b = l.set i b ++ (List.range 4).map (sumByte (sumB l)) := by
      rw [sealL, List.set_append_left _ _ h]
    rw [h0, List.take_left' (by rw [List.length_set]), sealL] at h1
    have h2 := List.append_cancel_left h1
    have h3 := set_at h b
    have h4 := split_at h
    have h5 : b = l[i] := by
      apply sum_told (p := l.take i) (q := l.drop (i + 1))
      rw [← h3, ← h4]; exact h2
    apply hb
    rw [sealL, List.getElem?_append_left h, List.getElem?_eq_getElem h, h5]
  · have h0 : (sealL l).set i b = l ++ ((List.range 4).map (sumByte (sumB l))).set (i - l.length) b := by
      rw [sealL, List.set_append_right _ _ h]
    rw [h0, List.take_left' rfl, sealL] at h1
    have h2 := List.append_cancel_left h1
    apply hb
    rw [sealL, List.getElem?_append_right h, h2, List.getElem?_set]
    simp
    omega

end Go.Proofs.YtkmcbaihemaoeaaGreat
