/- The image's loader: windows, links and ports. -/
import Derived.Test.YtgkcackpffimmaaI8
import Derived.Test.YtgkcackpffimmaaI2
set_option linter.unusedVariables false
set_option linter.unusedSimpArgs false
set_option maxRecDepth 10000
set_option maxHeartbeats 4000000
namespace Go.Proofs.Ytgkcackpffimmaa
open Go.TM

abbrev RSt := List UInt8 × Int
def rS (k : Nat) (s : RSt) : RSt := (rT k s.1 s.2).2
def rV (k : Nat) (s : RSt) : Int := un (rT k s.1 s.2).1
def rAt (σ : TS) (l : Nat) (s : RSt) : TS := σ.set l (.cells (rC s.1 s.2))
section
variable {σ : TS} {l : Nat} {s : RSt}
theorem rAt_len : (rAt σ l s).length = σ.length := by simp [rAt]
theorem rAt_l (hl : l < σ.length) : (rAt σ l s)[l]? = some (.cells (rC s.1 s.2)) := List.getElem?_set_self hl
theorem rAt_p {p : Nat} (h1 : p ≠ l) : (rAt σ l s)[p]? = σ[p]? := by
  unfold rAt; rw [List.getElem?_set_ne (Ne.symm h1)]
theorem rAt_same (h : σ[l]? = some (.cells (rC s.1 s.2))) : rAt σ l s = σ := set_same h
theorem rAt_rAt {s' : RSt} {ρ : TS} (hl : l < σ.length) : (rAt σ l s ++ ρ).set l (.cells (rC s'.1 s'.2)) = rAt σ l s' ++ ρ := by
  unfold rAt
  rw [List.set_append_left _ _ (by simpa using hl), List.set_set]
@[go_sem] theorem rAt_app0 {ρ : TS} : (rAt σ l s ++ ρ)[σ.length]? = ρ[0]? := by
  rw [List.getElem?_append_right (by rw [rAt_len]; exact Nat.le_refl _), rAt_len, Nat.sub_self]
@[go_sem] theorem rAt_app {ρ : TS} {k : Nat} : (rAt σ l s ++ ρ)[σ.length + k]? = ρ[k]? := by
  rw [List.getElem?_append_right (by rw [rAt_len]; omega), rAt_len]; congr 1; omega
@[go_sem] theorem rAt_setapp0 {ρ : TS} {o : TObj} : (rAt σ l s ++ ρ).set σ.length o = rAt σ l s ++ ρ.set 0 o := by
  rw [List.set_append_right _ _ (by rw [rAt_len]; exact Nat.le_refl _), rAt_len, Nat.sub_self]
@[go_sem] theorem rAt_setapp {ρ : TS} {k : Nat} {o : TObj} : (rAt σ l s ++ ρ).set (σ.length + k) o = rAt σ l s ++ ρ.set k o := by
  rw [List.set_append_right _ _ (by rw [rAt_len]; omega), rAt_len]; congr 2; omega
attribute [go_sem] rAt_len
end
theorem rS_le (k : Nat) (s : RSt) : (rS k s).1.length ≤ s.1.length := by
  unfold rS rT
  split
  · exact Nat.le_refl _
  · split
    · simp
    · exact Nat.le_refl _

section
variable {σ : TS} {l : Nat} {s s' : RSt} {v : Int} (hl : l < σ.length) (hr : s.1.length ≤ 100000) (ρ : TS)
include hl hr
theorem ru8_at (e : s' = rS 1 s) (ev : v = rV 1 s) : TDoes Try.prog 118 [.ptr l 0] (rAt σ l s ++ ρ) (.int .i64 v) (rAt σ l s' ++ ρ) := by
  have := ru8_walk (σ := rAt σ l s ++ ρ) (l := l) (r := s.1) (e := s.2) (by rw [List.getElem?_append_left (by rw [rAt_len]; exact hl)]; exact rAt_l hl) (by omega)
  rw [e, ev]
  exact rAt_rAt (s' := rS 1 s) (ρ := ρ) hl ▸ this
theorem ru16_at (e : s' = rS 2 s) (ev : v = rV 2 s) : TDoes Try.prog 115 [.ptr l 0] (rAt σ l s ++ ρ) (.int .i64 v) (rAt σ l s' ++ ρ) := by
  have := ru16_walk (σ := rAt σ l s ++ ρ) (l := l) (r := s.1) (e := s.2) (by rw [List.getElem?_append_left (by rw [rAt_len]; exact hl)]; exact rAt_l hl) (by omega)
  rw [e, ev]
  exact rAt_rAt (s' := rS 2 s) (ρ := ρ) hl ▸ this
theorem ru32_at (e : s' = rS 4 s) (ev : v = rV 4 s) : TDoes Try.prog 165 [.ptr l 0] (rAt σ l s ++ ρ) (.int .i64 v) (rAt σ l s' ++ ρ) := by
  have := ru32_walk (σ := rAt σ l s ++ ρ) (l := l) (r := s.1) (e := s.2) (by rw [List.getElem?_append_left (by rw [rAt_len]; exact hl)]; exact rAt_l hl) (by omega)
  rw [e, ev]
  exact rAt_rAt (s' := rS 4 s) (ρ := ρ) hl ▸ this
theorem rb413_at (e : s' = rS 1 s) : TDoes Try.prog 193 [.ptr l 0, three 4 1 3] (rAt σ l s ++ ρ) (threeR 16 8 s.1 s.2) (rAt σ l s' ++ ρ) := by
  have := rbits413 (σ := rAt σ l s ++ ρ) (l := l) (r := s.1) (e := s.2) (by rw [List.getElem?_append_left (by rw [rAt_len]; exact hl)]; exact rAt_l hl) (by omega)
  rw [e]
  exact rAt_rAt (s' := rS 1 s) (ρ := ρ) hl ▸ this
theorem rb215_at (e : s' = rS 1 s) : TDoes Try.prog 193 [.ptr l 0, three 2 1 5] (rAt σ l s ++ ρ) (threeR 64 32 s.1 s.2) (rAt σ l s' ++ ρ) := by
  have := rbits215 (σ := rAt σ l s ++ ρ) (l := l) (r := s.1) (e := s.2) (by rw [List.getElem?_append_left (by rw [rAt_len]; exact hl)]; exact rAt_l hl) (by omega)
  rw [e]
  exact rAt_rAt (s' := rS 1 s) (ρ := ρ) hl ▸ this
end

/- three numbers of a byte -/
theorem copyI3 {σ : TS} {l : Nat} {x y z : TV} {a b c : Int} (h : σ[l]? = some (.cells [x, y, z])) : tcopy (mkTab Try.prog) σ 22 (.msl l 0 3) (three a b c) = some (.int .i64 3, σ.set l (.cells [.int .i64 a, .int .i64 b, .int .i64 c])) := by
  unfold tcopy
  simp only [tab22, tab3, tslcells, tlen, h]
  rfl
theorem copyI0 {σ : TS} {l : Nat} {x y z : TV} (h : σ[l]? = some (.cells [x, y, z])) : tcopy (mkTab Try.prog) σ 22 (.msl l 0 3) .nils = some (.int .i64 0, σ.set l (.cells [x, y, z])) := by
  unfold tcopy
  simp only [tab22, tab3, tslcells, tlen, h]
  rfl

theorem arrSl {l : Nat} : tslice (mkTab Try.prog) 237 (.ptr l 0) none none none = some (.msl l 0 3) := by
  unfold tslice
  simp only [tab237, tab3]
  rfl

abbrev arr3 (a b : Int) (n : Int) : TV := .agg [.int .i64 (n / a), .int .i64 (n / b % 2), .int .i64 (n % b)]
section
variable {σ : TS} {l p : Nat} {s : RSt} {bad : Int} (hl : σ[l]? = some (.cells (rC s.1 s.2))) (hp : σ[p]? = some (.cells [.ptr l 0, .int .i64 bad])) (hr : s.1.length ≤ 100000)
include hl hp hr
theorem three413 : TDoes Try.prog 186 [.ptr p 0, three 4 1 3] σ (arr3 16 8 (rV 1 s)) (rAt σ l (rS 1 s)) := by
  have hlt := lt_of_get hl
  have hpl : p ≠ l := fun e => by subst e; rw [hl] at hp; cases hp
  have hsame := rAt_same hl
  have hpr := lt_of_get hp
  have hgp : ∀ x ρ, (rAt σ l x ++ ρ)[p]? = some (.cells [.ptr l 0, .int .i64 bad]) := fun x ρ => by rw [List.getElem?_append_left (by rw [rAt_len]; exact hpr), rAt_p hpl]; exact hp
  have hTu : ∀ x, Turned σ (rAt σ l x) := fun x => Turned.set (Turned.refl _) rfl
  have hb := fun ρ => rb413_at (s' := rS 1 s) hlt hr ρ rfl
  rw [hsame] at hb
  by_cases hx : (rT 1 s.1 s.2).2.2 = 0
  · have e : threeR 16 8 s.1 s.2 = three (rV 1 s / 16) (rV 1 s / 8 % 2) (rV 1 s % 8) := by unfold threeR; rw [if_neg (by omega)]; rfl
    rw [e] at hb
    generalize rS 1 s = s1 at *
    generalize rV 1 s = n at *
    have hcp : ∀ C : TObj, tcopy (mkTab Try.prog) (rAt σ l s1 ++ [C, .cells [.int .i64 0, .int .i64 0, .int .i64 0]]) 22 (.msl (σ.length + 1) 0 3) (three (n / 16) (n / 8 % 2) (n % 8)) = some (.int .i64 3, rAt σ l s1 ++ [C, .cells [.int .i64 (n / 16), .int .i64 (n / 8 % 2), .int .i64 (n % 8)]]) := fun C => by
      rw [copyI3 (by rw [rAt_app]; rfl), rAt_setapp]; rfl
    refine does_of [] [.cell 4 237] Try.func186 (by kernel_rfl) rfl (by kernel_rfl) fun X hR hN => ?_
    show Tw _ _ _ _ ([some _, some _] ++ List.replicate 13 none) _
    simp only [List.replicate, List.cons_append, List.nil_append]
    have FK := And.intro @hp (@hgp); have FD := And.intro @arrSl (@hcp); have FL := zdum; have dA := @hb; have eA : Eord 2 [(0, 0), (1, 0), (2, 0), (3, 0), (4, 1), (5, 0), (6, 2), (7, 2)] := ⟨trivial⟩
    refine walk ?_
    (repeat' first | exact Lv.nil | apply Lv.cons) <;> (intros; clear eA dA FL FD FK)
  · have e : threeR 16 8 s.1 s.2 = .nils := by unfold threeR; rw [if_pos hx]
    have e0 : rV 1 s = 0 := by
      unfold rT at hx
      unfold rV rT
      split
      · rfl
      · rename_i q
        rw [if_neg q] at hx
        split
        · rename_i q2
          rw [if_pos q2] at hx
          exact absurd rfl hx
        · rfl
    rw [e] at hb
    generalize rS 1 s = s1 at *
    rw [e0]
    have hcp : ∀ C : TObj, tcopy (mkTab Try.prog) (rAt σ l s1 ++ [C, .cells [.int .i64 0, .int .i64 0, .int .i64 0]]) 22 (.msl (σ.length + 1) 0 3) .nils = some (.int .i64 0, rAt σ l s1 ++ [C, .cells [.int .i64 0, .int .i64 0, .int .i64 0]]) := fun C => by
      rw [copyI0 (by rw [rAt_app]; rfl), rAt_setapp]; rfl
    refine does_of [] [.cell 4 237] Try.func186 (by kernel_rfl) rfl (by kernel_rfl) fun X hR hN => ?_
    show Tw _ _ _ _ ([some _, some _] ++ List.replicate 13 none) _
    simp only [List.replicate, List.cons_append, List.nil_append]
    have FK := And.intro @hp (@hgp); have FD := And.intro @arrSl (@hcp); have FL := zdum; have dA := @hb; have eA : Eord 2 [(0, 0), (1, 0), (2, 0), (3, 0), (4, 1), (5, 0), (6, 2), (7, 2)] := ⟨trivial⟩
    refine walk ?_
    (repeat' first | exact Lv.nil | apply Lv.cons) <;> (intros; clear eA dA FL FD FK)
    all_goals rfl
theorem three215 : TDoes Try.prog 186 [.ptr p 0, three 2 1 5] σ (arr3 64 32 (rV 1 s)) (rAt σ l (rS 1 s)) := by
  have hlt := lt_of_get hl
  have hpl : p ≠ l := fun e => by subst e; rw [hl] at hp; cases hp
  have hsame := rAt_same hl
  have hpr := lt_of_get hp
  have hgp : ∀ x ρ, (rAt σ l x ++ ρ)[p]? = some (.cells [.ptr l 0, .int .i64 bad]) := fun x ρ => by rw [List.getElem?_append_left (by rw [rAt_len]; exact hpr), rAt_p hpl]; exact hp
  have hTu : ∀ x, Turned σ (rAt σ l x) := fun x => Turned.set (Turned.refl _) rfl
  have hb := fun ρ => rb215_at (s' := rS 1 s) hlt hr ρ rfl
  rw [hsame] at hb
  by_cases hx : (rT 1 s.1 s.2).2.2 = 0
  · have e : threeR 64 32 s.1 s.2 = three (rV 1 s / 64) (rV 1 s / 32 % 2) (rV 1 s % 32) := by unfold threeR; rw [if_neg (by omega)]; rfl
    rw [e] at hb
    generalize rS 1 s = s1 at *
    generalize rV 1 s = n at *
    have hcp : ∀ C : TObj, tcopy (mkTab Try.prog) (rAt σ l s1 ++ [C, .cells [.int .i64 0, .int .i64 0, .int .i64 0]]) 22 (.msl (σ.length + 1) 0 3) (three (n / 64) (n / 32 % 2) (n % 32)) = some (.int .i64 3, rAt σ l s1 ++ [C, .cells [.int .i64 (n / 64), .int .i64 (n / 32 % 2), .int .i64 (n % 32)]]) := fun C => by
      rw [copyI3 (by rw [rAt_app]; rfl), rAt_setapp]; rfl
    refine does_of [] [.cell 4 237] Try.func186 (by kernel_rfl) rfl (by kernel_rfl) fun X hR hN => ?_
    show Tw _ _ _ _ ([some _, some _] ++ List.replicate 13 none) _
    simp only [List.replicate, List.cons_append, List.nil_append]
    have FK := And.intro @hp (@hgp); have FD := And.intro @arrSl (@hcp); have FL := zdum; have dA := @hb; have eA : Eord 2 [(0, 0), (1, 0), (2, 0), (3, 0), (4, 1), (5, 0), (6, 2), (7, 2)] := ⟨trivial⟩
    refine walk ?_
    (repeat' first | exact Lv.nil | apply Lv.cons) <;> (intros; clear eA dA FL FD FK)
  · have e : threeR 64 32 s.1 s.2 = .nils := by unfold threeR; rw [if_pos hx]
    have e0 : rV 1 s = 0 := by
      unfold rT at hx
      unfold rV rT
      split
      · rfl
      · rename_i q
        rw [if_neg q] at hx
        split
        · rename_i q2
          rw [if_pos q2] at hx
          exact absurd rfl hx
        · rfl
    rw [e] at hb
    generalize rS 1 s = s1 at *
    rw [e0]
    have hcp : ∀ C : TObj, tcopy (mkTab Try.prog) (rAt σ l s1 ++ [C, .cells [.int .i64 0, .int .i64 0, .int .i64 0]]) 22 (.msl (σ.length + 1) 0 3) .nils = some (.int .i64 0, rAt σ l s1 ++ [C, .cells [.int .i64 0, .int .i64 0, .int .i64 0]]) := fun C => by
      rw [copyI0 (by rw [rAt_app]; rfl), rAt_setapp]; rfl
    refine does_of [] [.cell 4 237] Try.func186 (by kernel_rfl) rfl (by kernel_rfl) fun X hR hN => ?_
    show Tw _ _ _ _ ([some _, some _] ++ List.replicate 13 none) _
    simp only [List.replicate, List.cons_append, List.nil_append]
    have FK := And.intro @hp (@hgp); have FD := And.intro @arrSl (@hcp); have FL := zdum; have dA := @hb; have eA : Eord 2 [(0, 0), (1, 0), (2, 0), (3, 0), (4, 1), (5, 0), (6, 2), (7, 2)] := ⟨trivial⟩
    refine walk ?_
    (repeat' first | exact Lv.nil | apply Lv.cons) <;> (intros; clear eA dA FL FD FK)
    all_goals rfl

def winR (s : RSt) : Win × RSt := (⟨rV 2 s, rV 4 (rS 2 s), rV 4 (rS 4 (rS 2 s))⟩, rS 4 (rS 4 (rS 2 s)))
theorem window11_walk : TDoes Try.prog 167 [.ptr p 0] σ (.agg (winC (winR s).1)) (rAt σ l (winR s).2) := by
  have hlt := lt_of_get hl
  have hpl : p ≠ l := fun e => by subst e; rw [hl] at hp; cases hp
  have hsame := rAt_same hl
  have hpr := lt_of_get hp
  have hgp : ∀ x ρ, (rAt σ l x ++ ρ)[p]? = some (.cells [.ptr l 0, .int .i64 bad]) := fun x ρ => by rw [List.getElem?_append_left (by rw [rAt_len]; exact hpr), rAt_p hpl]; exact hp
  have hTu : ∀ x, Turned σ (rAt σ l x) := fun x => Turned.set (Turned.refl _) rfl
  obtain ⟨s1, e1⟩ : ∃ x, x = rS 2 s := ⟨_, rfl⟩
  obtain ⟨s2, e2⟩ : ∃ x, x = rS 4 s1 := ⟨_, rfl⟩
  obtain ⟨s3, e3⟩ : ∃ x, x = rS 4 s2 := ⟨_, rfl⟩
  obtain ⟨v1, f1⟩ : ∃ x, x = rV 2 s := ⟨_, rfl⟩
  obtain ⟨v2, f2⟩ : ∃ x, x = rV 4 s1 := ⟨_, rfl⟩
  obtain ⟨v3, f3⟩ : ∃ x, x = rV 4 s2 := ⟨_, rfl⟩
  have r1 : s1.1.length ≤ 100000 := by rw [e1]; have := rS_le 2 s; omega
  have r2 : s2.1.length ≤ 100000 := by rw [e2]; have := rS_le 4 s1; omega
  have a1 := fun ρ => ru16_at hlt hr ρ e1 f1
  rw [hsame] at a1
  have a2 := fun ρ => ru32_at hlt r1 ρ e2 f2
  have a3 := fun ρ => ru32_at hlt r2 ρ e3 f3
  have he : winR s = (⟨v1, v2, v3⟩, s3) := by rw [winR, ← f1, ← e1, ← f2, ← e2, ← f3, ← e3]
  rw [he]
  clear e1 e2 e3 f1 f2 f3 he
  refine does_of [] [.cell 2 44] Try.func167 (by kernel_rfl) rfl (by kernel_rfl) fun X hR hN => ?_
  show Tw _ _ _ _ ([some _] ++ List.replicate 22 none) _
  simp only [List.replicate, List.cons_append, List.nil_append]
  have FK := And.intro @hp (@hgp); have FD := zdum; have FL := zdum; have dA := @a1; have dB := @a2; have dC := @a3; have eA : Eord 3 [(0, 0), (1, 0), (2, 0), (3, 1), (5, 0), (6, 0), (7, 0), (8, 1), (4, 2), (10, 0), (9, 2), (11, 2), (12, 0), (13, 2)] := ⟨trivial⟩
  refine walk ?_
  (repeat' first | exact Lv.nil | apply Lv.cons) <;> (intros; clear eA dC dB dA FL FD FK)
end
end Go.Proofs.Ytgkcackpffimmaa
