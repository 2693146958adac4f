/- The image's loader: a whole network. -/
import Derived.Test.YtgkcackpffimmaaI14
set_option linter.unusedVariables false
set_option linter.unusedSimpArgs false
set_option maxRecDepth 10000
set_option maxHeartbeats 4000000
namespace Go.Proofs.Ytgkcackpffimmaa
open Go.TM

@[go_sem ↓] theorem fitsRowW {n : Nat} (r : Row Win) : TV.fits n (rowTV winC r) = true := rowTV_fits fun _ => rfl
@[go_sem ↓] theorem fitsRowV {n : Nat} (r : Row Link) : TV.fits n (rowTV linkC r) = true := rowTV_fits fun _ => by simp only [go_sem, TV.fitsL, TV.fits, Bool.and_self]
@[go_sem ↓] theorem fitsRowP {n : Nat} (r : Row Port) : TV.fits n (rowTV portC r) = true := rowTV_fits fun _ => rfl
def netParts (s : RSt) : List Int × RSt := tk intR (rS 2 s)
def netWins (s : RSt) : List Win × RSt := tk winR (rS 4 (netParts s).2)
def netLinks (s : RSt) : List Link × RSt := tk linkR (netWins s).2
def netPorts (s : RSt) : List Port × RSt := tk portR (netLinks s).2
def netBad (s : RSt) : Bool := badP (netLinks s).2
def netC11 (s : RSt) : Cfg := ⟨rV 2 s, rowOf (netParts s).1, rV 4 (netParts s).2, rowOf (netWins s).1, rowOf (netLinks s).1, rowOf (netPorts s).1⟩

theorem takeW_at {σ : TS} {l p : Nat} {x x' : RSt} {m : List Win} {bad : Int} (hlt : l < σ.length) (hpr : p < σ.length) (hpl : p ≠ l) (hp : σ[p]? = some (.cells [.ptr l 0, .int .i64 bad])) (hx : x.1.length ≤ 100000) (ρ : TS) (ex : x' = (tk winR x).2) (ev : m = (tk winR x).1) :
    TDoes Try.prog 166 [.ptr l 0, .func (.func 167) [.ptr p 0] []] (rAt σ l x ++ ρ) (rowTV winC (rowOf m)) (rAt σ l x' ++ ρ) := by
  have := takeW_walk (σ := rAt σ l x ++ ρ) (s := x) (l := l) (p := p) (bad := bad) (by rw [List.getElem?_append_left (by rw [rAt_len]; exact hpr), rAt_p hpl]; exact hp) (by rw [List.getElem?_append_left (by rw [rAt_len]; exact hlt)]; exact rAt_l hlt) hx
  rw [ex, ev]
  exact rAt_rAt (s' := (tk winR x).2) (ρ := ρ) hlt ▸ this
theorem takeV_at {σ : TS} {l p : Nat} {x x' : RSt} {m : List Link} {bad : Int} (hlt : l < σ.length) (hpr : p < σ.length) (hpl : p ≠ l) (hp : σ[p]? = some (.cells [.ptr l 0, .int .i64 bad])) (hx : x.1.length ≤ 100000) (ρ : TS) (ex : x' = (tk linkR x).2) (ev : m = (tk linkR x).1) :
    TDoes Try.prog 168 [.ptr l 0, .func (.func 169) [.ptr p 0] []] (rAt σ l x ++ ρ) (rowTV linkC (rowOf m)) (rAt σ l x' ++ ρ) := by
  have := takeV_walk (σ := rAt σ l x ++ ρ) (s := x) (l := l) (p := p) (bad := bad) (by rw [List.getElem?_append_left (by rw [rAt_len]; exact hpr), rAt_p hpl]; exact hp) (by rw [List.getElem?_append_left (by rw [rAt_len]; exact hlt)]; exact rAt_l hlt) hx
  rw [ex, ev]
  exact rAt_rAt (s' := (tk linkR x).2) (ρ := ρ) hlt ▸ this
theorem takeP_at {σ : TS} {l p : Nat} {x x' : RSt} {m : List Port} {b : Bool} (hlt : l < σ.length) (hpr : p < σ.length) (hpl : p ≠ l) (hp : σ[p]? = some (.cells [.ptr l 0, .int .i64 0])) (hx : x.1.length ≤ 100000) (ρ : TS) (ex : x' = (tk portR x).2) (ev : m = (tk portR x).1) (eb : b = badP x) :
    TDoes Try.prog 170 [.ptr l 0, .func (.func 171) [.ptr p 0] []] (rAt σ l x ++ ρ) (rowTV portC (rowOf m)) (rAt (sg σ l p b) l x' ++ ρ) := by
  have := takeP_walk (σ := rAt σ l x ++ ρ) (s := x) (l := l) (p := p) (by rw [List.getElem?_append_left (by rw [rAt_len]; exact hpr), rAt_p hpl]; exact hp) (by rw [List.getElem?_append_left (by rw [rAt_len]; exact hlt)]; exact rAt_l hlt) hx
  rw [ex, ev, eb]
  have e : rAt (sg (rAt σ l x ++ ρ) l p (badP x)) l (tk portR x).2 = rAt (sg σ l p (badP x)) l (tk portR x).2 ++ ρ := by
    cases badP x
    · exact rAt_rAt (s' := (tk portR x).2) (ρ := ρ) hlt
    · rw [sg_yes, sg_yes]
      unfold rAt
      rw [List.set_append_left _ _ (by rw [List.length_set]; exact hpr), List.set_append_left _ _ (by rw [List.length_set, List.length_set]; exact hlt), List.set_comm _ _ (Ne.symm hpl), List.set_set]
  rwa [e] at this

section
variable {σ : TS} {l p : Nat} {s : RSt} (hl : σ[l]? = some (.cells (rC s.1 s.2))) (hp : σ[p]? = some (.cells [.ptr l 0, .int .i64 0])) (hr : s.1.length ≤ 100000)
include hl hp hr
theorem network_walk : TDoes Try.prog 131 [.ptr p 0] σ (cfgTV (netC11 s)) (rAt (sg σ l p (netBad s)) l (netPorts s).2) := by
  have hlt := lt_of_get hl
  have hpl : p ≠ l := fun e => by subst e; rw [hl] at hp; cases hp
  have hsame := rAt_same hl
  have hpr := lt_of_get hp
  have hgp : ∀ x ρ, (rAt σ l x ++ ρ)[p]? = some (.cells [.ptr l 0, .int .i64 0]) := fun x ρ => by rw [List.getElem?_append_left (by rw [rAt_len]; exact hpr), rAt_p hpl]; exact hp
  have hTu : ∀ b x, Turned σ (rAt (sg σ l p b) l x) := fun b x => by
    cases b
    · exact Turned.set (Turned.refl _) rfl
    · exact Turned.set (Turned.set (Turned.refl _) (by simp [TObj.fits, TV.fits, TV.fitsL, hlt])) rfl
  obtain ⟨s1, e1⟩ : ∃ x, x = rS 2 s := ⟨_, rfl⟩
  obtain ⟨s2, e2⟩ : ∃ x, x = (tk intR s1).2 := ⟨_, rfl⟩
  obtain ⟨s3, e3⟩ : ∃ x, x = rS 4 s2 := ⟨_, rfl⟩
  obtain ⟨s4, e4⟩ : ∃ x, x = (tk winR s3).2 := ⟨_, rfl⟩
  obtain ⟨s5, e5⟩ : ∃ x, x = (tk linkR s4).2 := ⟨_, rfl⟩
  obtain ⟨s6, e6⟩ : ∃ x, x = (tk portR s5).2 := ⟨_, rfl⟩
  obtain ⟨b, eb⟩ : ∃ b, b = badP s5 := ⟨_, rfl⟩
  obtain ⟨v1, f1⟩ : ∃ x, x = rV 2 s := ⟨_, rfl⟩
  obtain ⟨v2, f2⟩ : ∃ x, x = (tk intR s1).1 := ⟨_, rfl⟩
  obtain ⟨v3, f3⟩ : ∃ x, x = rV 4 s2 := ⟨_, rfl⟩
  obtain ⟨v4, f4⟩ : ∃ x, x = (tk winR s3).1 := ⟨_, rfl⟩
  obtain ⟨v5, f5⟩ : ∃ x, x = (tk linkR s4).1 := ⟨_, rfl⟩
  obtain ⟨v6, f6⟩ : ∃ x, x = (tk portR s5).1 := ⟨_, rfl⟩
  have r1 : s1.1.length ≤ 100000 := by rw [e1]; have := rS_le 2 s; omega
  have r2 : s2.1.length ≤ 100000 := by rw [e2]; have := tk_le (f := intR) (fun x => rS_le 2 x) s1; omega
  have r3 : s3.1.length ≤ 100000 := by rw [e3]; have := rS_le 4 s2; omega
  have r4 : s4.1.length ≤ 100000 := by rw [e4]; have := tk_le winR_le s3; omega
  have r5 : s5.1.length ≤ 100000 := by rw [e5]; have := tk_le linkR_le s4; omega
  have a1 := fun ρ => ru16_at hlt hr ρ e1 f1
  rw [hsame] at a1
  have a2 := fun ρ => takeI_at hlt r1 ρ e2 f2
  have a3 := fun ρ => ru32_at hlt r2 ρ e3 f3
  have a4 := fun ρ => takeW_at hlt hpr hpl hp r3 ρ e4 f4
  have a5 := fun ρ => takeV_at hlt hpr hpl hp r4 ρ e5 f5
  have a6 := fun ρ => takeP_at hlt hpr hpl hp r5 ρ e6 f6 eb
  have he : netC11 s = ⟨v1, rowOf v2, v3, rowOf v4, rowOf v5, rowOf v6⟩ := by
    rw [netC11, netPorts, netLinks, netWins, netParts, ← f1, ← e1, ← f2, ← e2, ← f3, ← e3, ← f4, ← e4, ← f5, ← e5, ← f6]
  have h6 : (netPorts s).2 = s6 := by rw [netPorts, netLinks, netWins, netParts, ← e1, ← e2, ← e3, ← e4, ← e5, ← e6]
  have hb : netBad s = b := by rw [netBad, netLinks, netWins, netParts, ← e1, ← e2, ← e3, ← e4, ← e5, ← eb]
  rw [he, h6, hb]
  clear e1 e2 e3 e4 e5 e6 f1 f2 f3 f4 f5 f6 eb he h6 hb
  refine does_of [] [.cell 2 27] Try.func131 (by kernel_rfl) rfl (by kernel_rfl) fun X hR hN => ?_
  show Tw _ _ _ _ ([some _] ++ List.replicate 51 none) _
  simp only [List.replicate, List.cons_append, List.nil_append]
  have FK := And.intro @hp (@hgp); have FD := zdum; have FL := zdum; have dA := @a1; have dB := @a2; have dC := @a3; have dD := @a4; have dE := @a5; have dF := @a6; have eA : Eord 3 [(0, 0), (1, 0), (2, 0), (3, 1), (4, 0), (5, 0), (6, 0), (7, 1), (8, 0), (9, 2), (10, 0), (11, 2)] := ⟨trivial⟩
  refine walk ?_
  (repeat' first | exact Lv.nil | apply Lv.cons) <;> (intros; clear eA dF dE dD dC dB dA FL FD FK)
end
end Go.Proofs.Ytgkcackpffimmaa
