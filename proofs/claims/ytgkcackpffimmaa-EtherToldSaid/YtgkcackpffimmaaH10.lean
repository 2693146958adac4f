/- Ether: what is encoded is decoded. -/
import Derived.Test.YtgkcackpffimmaaH9
set_option linter.unusedVariables false
set_option linter.unusedSimpArgs false
set_option maxRecDepth 10000
set_option maxHeartbeats 4000000
namespace Go.Proofs.Ytgkcackpffimmaa
open Go.TM

theorem encL_ok {f : Frm} (h : (encL f).2 = 0) : ArgsOk f ∧ f.data.length ≤ 1499 ∧ encL f = (sealL (bodyL f), 0) := by
  unfold encL at h ⊢
  split at h
  · cases h
  · rename_i h1
    split at h
    · cases h
    · rename_i h2
      rw [if_neg h1, if_neg h2]
      exact ⟨Decidable.of_not_not h1, by omega, rfl⟩
theorem encL_err {f : Frm} (h : (encL f).2 ≠ 0) : (encL f).1 = [] := by
  unfold encL at h ⊢
  split
  · rfl
  · rename_i h1
    split
    · rfl
    · rename_i h2
      rw [if_neg h1, if_neg h2] at h
      exact absurd rfl h

/-- The data of a frame as it goes. -/
def padL (f : Frm) : List UInt8 := f.data ++ List.replicate (45 - f.data.length) 0
theorem padL_len (f : Frm) : (padL f).length = max f.data.length 45 := by rw [padL, List.length_append, List.length_replicate]; omega
theorem bodyL_eq (f : Frm) : bodyL f = 3 :: 0 :: 0 :: 0 :: b8 (f.vl / 256) :: b8 f.vl :: 2 :: 0 :: 0 :: b8 (f.from_ / 256) :: b8 f.from_ :: b8 (32 * (f.net + 1)) :: 8 :: 0 :: (padL f ++ [b8 f.seq]) := by
  simp [bodyL, headL, padL, be2, be1]

theorem endsE_back {f : Frm} (h : ArgsOk f) : endsE 3 0 0 0 (b8 (f.vl / 256)) (b8 f.vl) 2 0 0 (b8 (f.from_ / 256)) (b8 f.from_) (b8 (32 * (f.net + 1))) = (f.vl, f.from_, f.net, 0) := by
  obtain ⟨⟨h1, h2⟩, ⟨h3, h4, h5⟩, h6, h7⟩ := h
  have e1 := b8_toNat (f.vl / 256)
  have e2 := b8_toNat f.vl
  have e3 := b8_toNat (f.from_ / 256)
  have e4 := b8_toNat f.from_
  have e5 := b8_toNat (32 * (f.net + 1))
  rw [endsE, if_pos ⟨rfl, rfl, rfl, rfl, by omega⟩, if_pos ⟨rfl, rfl, rfl, by omega, by omega⟩]
  rw [show 256 * ((b8 (f.vl / 256)).toNat : Int) + (b8 f.vl).toNat = f.vl by omega, show 256 * ((b8 (f.from_ / 256)).toNat : Int) + (b8 f.from_).toNat = f.from_ by omega, show ((b8 (32 * (f.net + 1))).toNat : Int) / 32 - 1 = f.net by omega]

theorem sealL_take (l : List UInt8) : (sealL l).take l.length = l := by
  unfold sealL
  exact List.take_left

theorem decL_back {f : Frm} (h : (encL f).2 = 0) : decL (encL f).1 = ({ f with data := padL f }, 0) ∧ lookL (encL f).1 = (f.vl, 0) := by
  obtain ⟨h1, h2, h3⟩ := encL_ok h
  have hl := encL_len h
  rw [h3] at hl ⊢
  have hl : (sealL (bodyL f)).length = 19 + min (max f.data.length 45) 1499 := hl
  have hb : (bodyL f).length = 15 + min (max f.data.length 45) 1499 := by rw [sealL_len] at hl; omega
  have ho : openL (sealL (bodyL f)) = (bodyL f, 0) := by
    have ht : (sealL (bodyL f)).take ((sealL (bodyL f)).length - 4) = bodyL f := by rw [sealL_len, Nat.add_sub_cancel]; exact sealL_take _
    rw [openL, if_neg (by omega), ht, if_pos rfl]
  constructor
  · show decL (sealL (bodyL f)) = _
    rw [decL, if_neg (by omega), if_neg (by omega), ho, if_neg (by simp)]
    show frmE (bodyL f) = _
    rw [bodyL_eq, frmE, endsE_back h1, if_neg (by simp), if_neg (by decide)]
    have e6 := b8_toNat f.seq
    simp
    omega
  · show lookL (sealL (bodyL f)) = _
    rw [sealL, bodyL_eq]
    simp only [List.cons_append, lookL, endsE_back h1]
end Go.Proofs.Ytgkcackpffimmaa
