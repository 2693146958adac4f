/- The image's loader: a link. -/
import Derived.Test.YtgkcackpffimmaaI10
set_option linter.unusedVariables false
set_option linter.unusedSimpArgs false
set_option maxRecDepth 10000
set_option maxHeartbeats 4000000
namespace Go.Proofs.Ytgkcackpffimmaa
open Go.TM

theorem tk_le {α : Type} {f : RSt → α × RSt} (hf : ∀ x, (f x).2.1.length ≤ x.1.length) (s : RSt) : (tk f s).2.1.length ≤ s.1.length :=
  Nat.le_trans (tkN_le hf _ _) (rS_le 2 s)
theorem takeI_at {σ : TS} {l : Nat} {x x' : RSt} {m : List Int} (hlt : l < σ.length) (hx : x.1.length ≤ 100000) (ρ : TS) (ex : x' = (tk intR x).2) (ev : m = (tk intR x).1) :
    TDoes Try.prog 164 [.ptr l 0, .func (.func 115) [.ptr l 0] []] (rAt σ l x ++ ρ) (rowTV intC (rowOf m)) (rAt σ l x' ++ ρ) := by
  have := takeI_walk (σ := rAt σ l x ++ ρ) (s := x) (l := l) (by rw [List.getElem?_append_left (by rw [rAt_len]; exact hlt)]; exact rAt_l hlt) hx
  rw [ex, ev]
  exact rAt_rAt (s' := (tk intR x).2) (ρ := ρ) hlt ▸ this
theorem three413_at {σ : TS} {l p : Nat} {x x' : RSt} {n bad : Int} (hlt : l < σ.length) (hpr : p < σ.length) (hpl : p ≠ l) (hp : σ[p]? = some (.cells [.ptr l 0, .int .i64 bad])) (hx : x.1.length ≤ 100000) (ρ : TS) (ex : x' = rS 1 x) (ev : n = rV 1 x) :
    TDoes Try.prog 186 [.ptr p 0, three 4 1 3] (rAt σ l x ++ ρ) (arr3 16 8 n) (rAt σ l x' ++ ρ) := by
  have := three413 (σ := rAt σ l x ++ ρ) (s := x) (bad := bad) (p := p) (by rw [List.getElem?_append_left (by rw [rAt_len]; exact hlt)]; exact rAt_l hlt) (by rw [List.getElem?_append_left (by rw [rAt_len]; exact hpr), rAt_p hpl]; exact hp) hx
  rw [ex, ev]
  exact rAt_rAt (s' := rS 1 x) (ρ := ρ) hlt ▸ this
theorem three215_at {σ : TS} {l p : Nat} {x x' : RSt} {n bad : Int} (hlt : l < σ.length) (hpr : p < σ.length) (hpl : p ≠ l) (hp : σ[p]? = some (.cells [.ptr l 0, .int .i64 bad])) (hx : x.1.length ≤ 100000) (ρ : TS) (ex : x' = rS 1 x) (ev : n = rV 1 x) :
    TDoes Try.prog 186 [.ptr p 0, three 2 1 5] (rAt σ l x ++ ρ) (arr3 64 32 n) (rAt σ l x' ++ ρ) := by
  have := three215 (σ := rAt σ l x ++ ρ) (s := x) (bad := bad) (p := p) (by rw [List.getElem?_append_left (by rw [rAt_len]; exact hlt)]; exact rAt_l hlt) (by rw [List.getElem?_append_left (by rw [rAt_len]; exact hpr), rAt_p hpl]; exact hp) hx
  rw [ex, ev]
  exact rAt_rAt (s' := rS 1 x) (ρ := ρ) hlt ▸ this

def linkR (s : RSt) : Link × RSt :=
  (⟨rV 2 s, rV 2 (rS 2 s), rV 1 (rS 2 (rS 2 s)) / 16, rV 2 (rS 1 (rS 2 (rS 2 s))), rV 1 (rS 2 (rS 2 s)) / 8 % 2 == 1, rV 1 (rS 2 (rS 2 s)) % 8, rV 4 (rS 2 (rS 1 (rS 2 (rS 2 s)))),
    rowOf (tk intR (rS 4 (rS 2 (rS 1 (rS 2 (rS 2 s)))))).1⟩, (tk intR (rS 4 (rS 2 (rS 1 (rS 2 (rS 2 s)))))).2)
section
variable {σ : TS} {l p : Nat} {s : RSt} {bad : Int} (hl : σ[l]? = some (.cells (rC s.1 s.2))) (hp : σ[p]? = some (.cells [.ptr l 0, .int .i64 bad])) (hr : s.1.length ≤ 100000)
include hl hp hr
theorem link_walk11 : TDoes Try.prog 169 [.ptr p 0] σ (.agg (linkC (linkR s).1)) (rAt σ l (linkR s).2) := by
  have hlt := lt_of_get hl
  have hpl : p ≠ l := fun e => by subst e; rw [hl] at hp; cases hp
  have hsame := rAt_same hl
  have hpr := lt_of_get hp
  have hgp : ∀ x ρ, (rAt σ l x ++ ρ)[p]? = some (.cells [.ptr l 0, .int .i64 bad]) := fun x ρ => by rw [List.getElem?_append_left (by rw [rAt_len]; exact hpr), rAt_p hpl]; exact hp
  have hTu : ∀ x, Turned σ (rAt σ l x) := fun x => Turned.set (Turned.refl _) rfl
  obtain ⟨s1, e1⟩ : ∃ x, x = rS 2 s := ⟨_, rfl⟩
  obtain ⟨s2, e2⟩ : ∃ x, x = rS 2 s1 := ⟨_, rfl⟩
  obtain ⟨s3, e3⟩ : ∃ x, x = rS 1 s2 := ⟨_, rfl⟩
  obtain ⟨s4, e4⟩ : ∃ x, x = rS 2 s3 := ⟨_, rfl⟩
  obtain ⟨s5, e5⟩ : ∃ x, x = rS 4 s4 := ⟨_, rfl⟩
  obtain ⟨s6, e6⟩ : ∃ x, x = (tk intR s5).2 := ⟨_, rfl⟩
  obtain ⟨v1, f1⟩ : ∃ x, x = rV 2 s := ⟨_, rfl⟩
  obtain ⟨v2, f2⟩ : ∃ x, x = rV 2 s1 := ⟨_, rfl⟩
  obtain ⟨n, f3⟩ : ∃ x, x = rV 1 s2 := ⟨_, rfl⟩
  obtain ⟨v4, f4⟩ : ∃ x, x = rV 2 s3 := ⟨_, rfl⟩
  obtain ⟨v5, f5⟩ : ∃ x, x = rV 4 s4 := ⟨_, rfl⟩
  obtain ⟨m, f6⟩ : ∃ x, x = (tk intR s5).1 := ⟨_, rfl⟩
  have r1 : s1.1.length ≤ 100000 := by rw [e1]; have := rS_le 2 s; omega
  have r2 : s2.1.length ≤ 100000 := by rw [e2]; have := rS_le 2 s1; omega
  have r3 : s3.1.length ≤ 100000 := by rw [e3]; have := rS_le 1 s2; omega
  have r4 : s4.1.length ≤ 100000 := by rw [e4]; have := rS_le 2 s3; omega
  have r5 : s5.1.length ≤ 100000 := by rw [e5]; have := rS_le 4 s4; omega
  have a1 := fun ρ => ru16_at hlt hr ρ e1 f1
  rw [hsame] at a1
  have a2 := fun ρ => ru16_at hlt r1 ρ e2 f2
  have a3 := fun ρ => three413_at hlt hpr hpl hp r2 ρ e3 f3
  have a4 := fun ρ => ru16_at hlt r3 ρ e4 f4
  have a5 := fun ρ => ru32_at hlt r4 ρ e5 f5
  have a6 := fun ρ => takeI_at hlt r5 ρ e6 f6
  have he : linkR s = (⟨v1, v2, n / 16, v4, n / 8 % 2 == 1, n % 8, v5, rowOf m⟩, s6) := by
    rw [linkR, ← f1, ← e1, ← f2, ← e2, ← f3, ← e3, ← f4, ← e4, ← f5, ← e5, ← f6, ← e6]
  rw [he]
  clear e1 e2 e3 e4 e5 e6 f1 f2 f3 f4 f5 f6 he
  refine does_of [] [.cell 2 40] Try.func169 (by kernel_rfl) rfl (by kernel_rfl) fun X hR hN => ?_
  show Tw _ _ _ _ ([some _] ++ List.replicate 53 none) _
  simp only [List.replicate, List.cons_append, List.nil_append]
  have FK := And.intro @hp (@hgp); have FD := zdum; have FL := zdum; have cA := @linkBits_walk; have dA := @a1; have dB := @a2; have dC := @a3; have dD := @a4; have dE := @a5; have dF := @a6; have eA : Eord 2 [(0, 0), (1, 0), (2, 0), (3, 1), (5, 0), (6, 0), (7, 0), (8, 1), (4, 2), (10, 0), (9, 2), (11, 2), (12, 0), (13, 2)] := ⟨trivial⟩; have eB : Eord 4 [(0, 0), (1, 1), (2, 0), (3, 1), (4, 0), (5, 0), (6, 1), (7, 0), (8, 2), (9, 0), (10, 2), (11, 0), (12, 2)] := ⟨trivial⟩; have eC : Eord 5 [(0, 0), (1, 0), (2, 0), (3, 1), (5, 0), (6, 0), (7, 0), (8, 1), (4, 2), (10, 0), (9, 2), (11, 2), (12, 0), (13, 2)] := ⟨trivial⟩; have eD : Eord 6 [(0, 0), (1, 0), (2, 0), (3, 1), (4, 0), (5, 0), (6, 0), (7, 1), (8, 0), (9, 2), (10, 0), (11, 2)] := ⟨trivial⟩
  refine walk ?_
  (repeat' first | exact Lv.nil | apply Lv.cons) <;> (intros; clear eD eC eB eA dF dE dD dC dB dA cA FL FD FK)
end
end Go.Proofs.Ytgkcackpffimmaa
