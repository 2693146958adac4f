/- The reference's port. -/
import Derived.Test.YtgkcackpffimmaaE2
set_option linter.unusedVariables false
set_option linter.unusedSimpArgs false
set_option maxRecDepth 10000
set_option maxHeartbeats 2000000
namespace Go.Proofs.Ytgkcackpffimmaa
open Go.TM

theorem refport_out (c : Cfg) (i : Nat) (σ : TS) (hc : c.ok) (hi : i < c.ports.l.length) (hi2 : i ≤ 9223372036854775000) (hvl : c.vls.l.length ≤ 9223372036854775806) (hs : ∀ v ∈ c.vls.l, 0 ≤ v.smax ∧ v.smax ≤ 10000 ∧ v.to.l.length ≤ 9223372036854775806) (v : Link) (hv : findL c.vls.l (nth c.ports.l i).vl = some v) (ho : (nth c.ports.l i).out = true) :
    TPure Try.prog 83 [cfgTV c, .int .i64 i] σ (.int .i64 (portS c i)) := by
  have hpred : ((i : Int) - 1).toNat = i - 1 := by omega
  have hcall : ∀ σ, TPure Try.prog 60 [cfgTV c, .int .i64 (nth c.ports.l i).vl] σ (.tup [linkTV v, .bool true]) := fun σ => by
    have := refVL_walk c (nth c.ports.l i).vl σ hvl
    rw [hv] at this
    exact this
  obtain ⟨hv1, hv2, hv3⟩ := hs v (List.mem_of_find?_eq_some hv)
  refine pure_of [] [.tmp 4] Try.func83 (by kernel_rfl) rfl (by kernel_rfl) fun X hR hN => ?_
  show Tw _ _ _ _ ([some _, some _] ++ List.replicate 227 none) _
  simp only [List.replicate, List.cons_append, List.nil_append]
  have FK := And.intro @hpred (@ho); have FD := zdum; have FL := zdum; have cA := @refpart_walk; have cB := @hcall; have cC := @reflargest_walk
  refine walk ?_
  (repeat' first | exact Lv.nil | apply Lv.cons) <;> (intros; clear cC cB cA FL FD FK)
  all_goals try (first | rw [portS_off (by omega)] | rw [portS_order (by omega) ⟨by omega, by assumption⟩] | rw [portS_host (by omega) (by omega) (by assumption)])
  all_goals try (exact congrArg (TV.int .i64) (portS_link' (by omega) (by omega) hv (by assumption) (by rw [portV_out ho]; repeat' split <;> omega) (by decide)).symm)
  all_goals
    have hoff : ¬ (512 ≤ i ∨ PortOff c (nth c.ports.l i)) := by omega
    have hord : ¬ (0 < i ∧ (nth c.ports.l (i - 1)).id ≥ (nth c.ports.l i).id) := by omega
    have hhost : (nth c.ports.l i).host = nth c.parts.l (nth c.ports.l i).part.toNat := by assumption
    have hpv : portV (nth c.ports.l i) v = 0 := by rw [portV_out ho]; repeat' split <;> omega
    clear hcall hs
    refine T_each (α := Nat × TS) (fun (k, τ) => [none, some (some (.int .i64 i)), some (some (.ptr σ.length 0)), none, none, some (some (.ptr (σ.length + 1) 0)), none, none, some (some (.int .i64 k)), none, none, none, none, none, none, none, none, none, none, none, none, none, none, none, none, none, none, none, none, none, none, none, none, none, none, none, none, none, none, none, none, none, none, none, none, none, none, none, none, none, none, none, none, none, none, none, none, none, none, none, none, none, none, none, none, none, none, none, none, none, none, none, none, none, none, none, none, none, none, none, none, none, none, none, none, none, none, none, none, none, none, none, none, none, none, none, none, none, none, none, none, none, none, none, none, none, none, none, none, none, none, none, none, none, none, none, none, none, none, none, none, none, none, none, none, none, none, none, none, none, none, none, none, none, none, none, none, none, none, none, none, none, none, none, none, none, none, none, none, none, none, none, none, none, none, none, none, none, none, none, none, none, none, none, none, none, none, none, none, none, none, none, none, none, none, none, none, none, none, none, none, none, none, none, none, none, none, none, none, none, none, none, none, none, none, none, none, none, none, none, none, none, none, none, none, none, none, none, none, none, none, none, none, none, none, none, none, none, none, none, none, none, none, none, none, none, none, none, none]) (fun (k, τ) => k ≤ i ∧ (∀ j, j < k → ¬ (nth c.ports.l i).place (nth c.ports.l j))) (fun (k, τ) => i - k) (fun (k, τ) => σ ++ (.cells (cfgC c) :: .cells (portC { nth c.ports.l i with out := true }) :: .cells (linkC v) :: τ)) ?_ ?_
    · refine ⟨(0, []), ⟨rfl, rfl, rfl, rfl, trivial⟩, ⟨by omega, fun j hj => by omega⟩, rfl⟩
    · rintro ⟨k, τ⟩ q ⟨hk, hno⟩
      show Tw _ _ _ _ ([q 0, some (.int .i64 i), some (.ptr σ.length 0), q 3, q 4, some (.ptr (σ.length + 1) 0), q 6, q 7, some (.int .i64 k), q 9, q 10, q 11, q 12, q 13, q 14, q 15, q 16, q 17, q 18, q 19, q 20, q 21, q 22, q 23, q 24, q 25, q 26, q 27, q 28, q 29, q 30, q 31, q 32, q 33, q 34, q 35, q 36, q 37, q 38, q 39, q 40, q 41, q 42, q 43, q 44, q 45, q 46, q 47, q 48, q 49, q 50, q 51, q 52, q 53, q 54, q 55, q 56, q 57, q 58, q 59, q 60, q 61, q 62, q 63, q 64, q 65, q 66, q 67, q 68, q 69, q 70, q 71, q 72, q 73, q 74, q 75, q 76, q 77, q 78, q 79, q 80, q 81, q 82, q 83, q 84, q 85, q 86, q 87, q 88, q 89, q 90, q 91, q 92, q 93, q 94, q 95, q 96, q 97, q 98, q 99, q 100, q 101, q 102, q 103, q 104, q 105, q 106, q 107, q 108, q 109, q 110, q 111, q 112, q 113, q 114, q 115, q 116, q 117, q 118, q 119, q 120, q 121, q 122, q 123, q 124, q 125, q 126, q 127, q 128, q 129, q 130, q 131, q 132, q 133, q 134, q 135, q 136, q 137, q 138, q 139, q 140, q 141, q 142, q 143, q 144, q 145, q 146, q 147, q 148, q 149, q 150, q 151, q 152, q 153, q 154, q 155, q 156, q 157, q 158, q 159, q 160, q 161, q 162, q 163, q 164, q 165, q 166, q 167, q 168, q 169, q 170, q 171, q 172, q 173, q 174, q 175, q 176, q 177, q 178, q 179, q 180, q 181, q 182, q 183, q 184, q 185, q 186, q 187, q 188, q 189, q 190, q 191, q 192, q 193, q 194, q 195, q 196, q 197, q 198, q 199, q 200, q 201, q 202, q 203, q 204, q 205, q 206, q 207, q 208, q 209, q 210, q 211, q 212, q 213, q 214, q 215, q 216, q 217, q 218, q 219, q 220, q 221, q 222, q 223, q 224, q 225, q 226, q 227, q 228]) (σ ++ (.cells (cfgC c) :: .cells (portC { nth c.ports.l i with out := true }) :: .cells (linkC v) :: τ))
      have FK := @ho; have FD := zdum; have FL := zdum
      refine walk ?_
      (repeat' first | exact Lv.nil | apply Lv.cons) <;> (intros; clear FL FD FK)
      all_goals first
        | exact congrArg (TV.int .i64) (portS_twice hoff hord hv hhost hpv (k := k) (by omega) ⟨by assumption, by rw [ho]; assumption, by assumption, by assumption⟩).symm
        | exact congrArg (TV.int .i64) (portS_ok hoff hord hv hhost hpv fun j hj => hno j (by omega)).symm
        | (refine ⟨(k + 1, τ ++ [_]), ?_, ⟨rfl, rfl, rfl, rfl, trivial⟩, ?_, rfl⟩
           · (try dsimp only); omega
           · refine ⟨by omega, upto hno ?_⟩
             rintro ⟨p1, p2, p3, p4⟩
             rw [ho] at p2
             first | contradiction | (simp_all; done))

end Go.Proofs.Ytgkcackpffimmaa
