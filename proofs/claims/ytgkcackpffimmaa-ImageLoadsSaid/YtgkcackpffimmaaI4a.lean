/- The image: its least example. -/
import Derived.Test.YtgkcackpffimmaaI4
set_option linter.unusedVariables false
set_option linter.unusedSimpArgs false
set_option maxRecDepth 10000
set_option maxHeartbeats 4000000
namespace Go.Proofs.Ytgkcackpffimmaa
open Go.TM

def leastC : Cfg := ⟨1, Row.none, 1, Row.none, Row.none, Row.none⟩
theorem least_few : FewC leastC := by
  have hok : leastC.ok := ⟨by unfold I64; simp [leastC], by unfold I64; simp [leastC], by simp [leastC, Row.none], by simp [leastC, Row.none], by simp [leastC, Row.none], by simp [leastC, Row.none], by simp [leastC, Row.none], by simp [leastC, Row.none], by simp [leastC, Row.none], by simp [leastC, Row.none]⟩
  exact ⟨hok, by simp [leastC, Row.none], by simp [leastC, Row.none], by simp [leastC, Row.none], by simp [leastC, Row.none], by simp [leastC, Row.none]⟩
theorem least_check : checkS leastC = (0, 0, 0) := by
  unfold checkS
  rw [if_neg (by simp [leastC])]
  simp only [leastC, Row.none, List.length_nil, firstBad, firstFrom]
  rw [if_neg (by omega)]
  simp [firstFrom, lateS, jitS, jitL]
theorem least_enc : encI leastC = (sealL (imgL leastC), 0) := by
  unfold encI
  rw [if_neg (by rw [least_check]; simp), if_neg]
  rintro ⟨k, hk, _⟩
  simp [leastC, Row.none] at hk
theorem seal_len (l : List UInt8) : (sealL l).length = l.length + 4 := by simp [sealL]
theorem least_len : (sealL (imgL leastC)).length = 24 := by
  rw [seal_len]
  simp [imgL, intsB, leastC, Row.none, be_len]
theorem awake11_walk (σ : TS) : TPure Try.prog 31 [] σ (.bool true) := by
  obtain ⟨s, hs⟩ : ∃ s, s = sealL (imgL leastC) := ⟨_, rfl⟩
  have hl : s.length = 24 := by rw [hs, least_len]
  have hen : ∀ σ, TPure Try.prog 32 [.agg [.int .i64 1, .nils, .int .i64 1, .nils, .nils, .nils]] σ (.tup [.str (B s), .int .i64 0]) := fun σ => by
    have := encodeI_walk leastC least_few σ
    rw [least_enc] at this
    rw [hs]; exact this
  refine pure_of [] [.tmp 0] Try.func31 (by kernel_rfl) rfl (by kernel_rfl) fun X hR hN => ?_
  show Tw _ _ _ _ ([] ++ List.replicate 15 none) _
  simp only [List.replicate, List.cons_append, List.nil_append]
  have FK := @hl; have FD := zdum; have FL := zdum; have cA := @hen
  refine walk ?_
  (repeat' first | exact Lv.nil | apply Lv.cons) <;> (intros; clear cA FL FD FK)
end Go.Proofs.Ytgkcackpffimmaa
