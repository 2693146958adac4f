/- The image: the document's reader. -/
import Derived.Test.YtgkcackpffimmaaI14
set_option linter.unusedVariables false
set_option linter.unusedSimpArgs false
set_option maxRecDepth 10000
set_option maxHeartbeats 4000000
namespace Go.Proofs.Ytgkcackpffimmaa
open Go.TM

theorem refrtext_walk {σ : TS} {l : Nat} {r : List UInt8} {e : Int} (hl : σ[l]? = some (.cells (rC r e))) (n : Nat) (hr : r.length ≤ 9223372036854775807) (hn : n ≤ 9223372036854775807) : TDoes Try.prog 172 [.ptr l 0, .int .i64 n] σ (.str (B (rT n r e).1)) (σ.set l (.cells (rC (rT n r e).2.1 (rT n r e).2.2))) := by
  have h1 := lt_of_get hl
  by_cases he : e = 0
  · subst he
    by_cases hn : n ≤ r.length
    · rw [rT_ok hn]
      refine calls_of [] [.tmp 4] Try.func172 (by kernel_rfl) rfl (by kernel_rfl) fun X hR hN => ?_
      show Tw _ _ _ _ ([some _, some _] ++ List.replicate 40 none) _
      simp only [List.replicate, List.cons_append, List.nil_append]
      have FK := @hl; have FD := zdum; have FL := zdum
      refine walk ?_
      (repeat' first | exact Lv.nil | apply Lv.cons) <;> (intros; clear FL FD FK)
      all_goals (first | exact ⟨rfl, rfl⟩ | exact ⟨rfl, trivial⟩ | exact ⟨trivial, rfl⟩ | trivial)
    · rw [rT_short hn]
      refine calls_of [] [.tmp 4] Try.func172 (by kernel_rfl) rfl (by kernel_rfl) fun X hR hN => ?_
      show Tw _ _ _ _ ([some _, some _] ++ List.replicate 40 none) _
      simp only [List.replicate, List.cons_append, List.nil_append]
      have FK := @hl; have FD := zdum; have FL := zdum
      refine walk ?_
      (repeat' first | exact Lv.nil | apply Lv.cons) <;> (intros; clear FL FD FK)
      all_goals (first | exact ⟨rfl, rfl⟩ | exact ⟨rfl, trivial⟩ | exact ⟨trivial, rfl⟩ | trivial)
  · rw [rT_err he]
    refine calls_of [] [.tmp 4] Try.func172 (by kernel_rfl) rfl (by kernel_rfl) fun X hR hN => ?_
    show Tw _ _ _ _ ([some _, some _] ++ List.replicate 40 none) _
    simp only [List.replicate, List.cons_append, List.nil_append]
    have FK := @hl; have FD := zdum; have FL := zdum
    refine walk ?_
    (repeat' first | exact Lv.nil | apply Lv.cons) <;> (intros; clear FL FD FK)
    all_goals exact ⟨by first | rfl | trivial, (set_same hl).symm⟩
theorem refrnum_walk {σ : TS} {l : Nat} {r : List UInt8} {e : Int} (hl : σ[l]? = some (.cells (rC r e))) (k : Nat) (hr : r.length ≤ 9223372036854775807) (hk : k ≤ 4) : TDoes Try.prog 132 [.ptr l 0, .int .i64 k] σ (.int .i64 (un (rT k r e).1)) (σ.set l (.cells (rC (rT k r e).2.1 (rT k r e).2.2))) := by
  have ht := refrtext_walk hl k hr (by omega)
  have hs := rT_len k r e
  generalize (rT k r e).1 = s at *
  generalize σ.set l (.cells (rC (rT k r e).2.1 (rT k r e).2.2)) = τ at *
  refine calls_of [] [.tmp 4] Try.func132 (by kernel_rfl) rfl (by kernel_rfl) fun X hR hN => ?_
  show Tw _ _ _ _ ([some _, some _] ++ List.replicate 23 none) _
  simp only [List.replicate, List.cons_append, List.nil_append]
  have FK := zdum; have FD := zdum; have FL := zdum; have dA := @ht
  refine walk ?_
  (repeat' first | exact Lv.nil | apply Lv.cons) <;> (intros; clear dA FL FD FK)
  refine T_each (α := Nat) (fun i => [none, none, none, none, none, some (some (.str (B s))), some (some (.int .i64 (un (s.take i)))), some (some (.int .i64 i)), none, none, none, none, none, none, none, none, none, none, none, none, none, none, none, none, none]) (fun i => i ≤ s.length) (fun i => s.length - i) (fun i => τ) ?_ ?_
  · refine ⟨(0), ⟨rfl, rfl, rfl, trivial⟩, ?_, rfl⟩
    omega
  · rintro i q hi
    show Tw _ _ _ _ ([q 0, q 1, q 2, q 3, q 4, some (.str (B s)), some (.int .i64 (un (s.take i))), some (.int .i64 i), q 8, q 9, q 10, q 11, q 12, q 13, q 14, q 15, q 16, q 17, q 18, q 19, q 20, q 21, q 22, q 23, q 24]) (τ)
    have hsm := un_small (s.take (min i 3)) (by rw [List.length_take]; omega)
    have h0 := un_nonneg (s.take i)
    rcases Nat.lt_or_ge i s.length with hlt | hge
    · rw [Nat.min_eq_left (by omega)] at hsm
      have hb := (nth s i).toNat_lt
      have FK := @wrap64_of; have FD := zdum; have FL := zdum
      refine walk ?_
      (repeat' first | exact Lv.nil | apply Lv.cons) <;> (intros; clear FL FD FK)
      rw [← un_take hlt]
      refine ⟨(i + 1), ?_, ⟨rfl, rfl, rfl, trivial⟩, ?_, (by first | rfl | trivial)⟩
      all_goals (try dsimp only)
      · omega
      · omega
    · obtain rfl : i = s.length := by omega
      have FK := zdum; have FD := zdum; have FL := zdum
      refine walk ?_
      (repeat' first | exact Lv.nil | apply Lv.cons) <;> (intros; clear FL FD FK)
      all_goals (rw [List.take_length]; first | exact ⟨rfl, rfl⟩ | exact ⟨rfl, trivial⟩ | exact ⟨trivial, rfl⟩ | trivial)
end Go.Proofs.Ytgkcackpffimmaa
