/- The image's loader: a port. -/
import Derived.Test.YtgkcackpffimmaaI11
set_option linter.unusedVariables false
set_option linter.unusedSimpArgs false
set_option maxRecDepth 10000
set_option maxHeartbeats 4000000
namespace Go.Proofs.Ytgkcackpffimmaa
open Go.TM

theorem rest_at {σ : TS} {l : Nat} {r : List UInt8} (hl : l < σ.length) (hr : r.length ≤ 100000) (ρ : TS) : TDoes Try.prog 187 [.ptr l 0] (rAt σ l (r, 0) ++ ρ) (.str (B r)) (rAt σ l ([], 0) ++ ρ) := by
  have := rest_walk (σ := rAt σ l (r, 0) ++ ρ) (l := l) (r := r) (e := 0) (by rw [List.getElem?_append_left (by rw [rAt_len]; exact hl)]; exact rAt_l hl) (by omega)
  rw [rT_ok (Nat.le_refl _), List.take_length, List.drop_length] at this
  exact rAt_rAt (s' := ([], 0)) (ρ := ρ) hl ▸ this

/-- A port's numbers, and where they end. -/
def port10 (s : RSt) : RSt := rS 4 (rS 4 (rS 2 (rS 2 (rS 2 (rS 2 (rS 1 (rS 2 (rS 2 (rS 4 s)))))))))
def portHi (s : RSt) : Int := rV 4 (rS 2 (rS 2 (rS 2 (rS 2 (rS 1 (rS 2 (rS 2 (rS 4 s))))))))
def portLo (s : RSt) : Int := rV 4 (rS 4 (rS 2 (rS 2 (rS 2 (rS 2 (rS 1 (rS 2 (rS 2 (rS 4 s)))))))))
def portN (s : RSt) : Int := rV 1 (rS 2 (rS 2 (rS 4 s)))
def port0 (s : RSt) (f : Int) : Port :=
  ⟨rV 4 s, rV 2 (rS 4 s), rV 2 (rS 2 (rS 4 s)), portN s / 64, portN s / 32 % 2 == 1, rV 2 (rS 1 (rS 2 (rS 2 (rS 4 s)))), portN s % 32, rV 2 (rS 2 (rS 1 (rS 2 (rS 2 (rS 4 s))))),
    rV 2 (rS 2 (rS 2 (rS 1 (rS 2 (rS 2 (rS 4 s)))))), rV 2 (rS 2 (rS 2 (rS 2 (rS 1 (rS 2 (rS 2 (rS 4 s))))))), f⟩
abbrev TooFresh (s : RSt) : Prop := (port10 s).2 = 0 ∧ portHi s * 4294967296 + portLo s > 1099511627776
def portR (s : RSt) : Port × RSt := if TooFresh s then (port0 s 0, ([], 10)) else (port0 s (ior .i64 (ishl .i64 (portHi s) 32) (portLo s)), port10 s)

section
variable {σ : TS} {l p : Nat} {s : RSt} (hl : σ[l]? = some (.cells (rC s.1 s.2))) (hp : σ[p]? = some (.cells [.ptr l 0, .int .i64 0])) (hr : s.1.length ≤ 100000)
include hl hp hr
theorem port_fine (h : ¬ TooFresh s) : TDoes Try.prog 171 [.ptr p 0] σ (.agg (portC (portR s).1)) (rAt σ l (portR s).2) := by
  have hlt := lt_of_get hl
  have hpl : p ≠ l := fun e => by subst e; rw [hl] at hp; cases hp
  have hsame := rAt_same hl
  have hpr := lt_of_get hp
  have hgp : ∀ x ρ, (rAt σ l x ++ ρ)[p]? = some (.cells [.ptr l 0, .int .i64 0]) := fun x ρ => by rw [List.getElem?_append_left (by rw [rAt_len]; exact hpr), rAt_p hpl]; exact hp
  have hTu : ∀ x, Turned σ (rAt σ l x) := fun x => Turned.set (Turned.refl _) rfl
  obtain ⟨s1, e1⟩ : ∃ x, x = rS 4 s := ⟨_, rfl⟩
  obtain ⟨s2, e2⟩ : ∃ x, x = rS 2 s1 := ⟨_, rfl⟩
  obtain ⟨s3, e3⟩ : ∃ x, x = rS 2 s2 := ⟨_, rfl⟩
  obtain ⟨s4, e4⟩ : ∃ x, x = rS 1 s3 := ⟨_, rfl⟩
  obtain ⟨s5, e5⟩ : ∃ x, x = rS 2 s4 := ⟨_, rfl⟩
  obtain ⟨s6, e6⟩ : ∃ x, x = rS 2 s5 := ⟨_, rfl⟩
  obtain ⟨s7, e7⟩ : ∃ x, x = rS 2 s6 := ⟨_, rfl⟩
  obtain ⟨s8, e8⟩ : ∃ x, x = rS 2 s7 := ⟨_, rfl⟩
  obtain ⟨s9, e9⟩ : ∃ x, x = rS 4 s8 := ⟨_, rfl⟩
  obtain ⟨s10, e10⟩ : ∃ x, x = rS 4 s9 := ⟨_, rfl⟩
  obtain ⟨v1, f1⟩ : ∃ x, x = rV 4 s := ⟨_, rfl⟩
  obtain ⟨v2, f2⟩ : ∃ x, x = rV 2 s1 := ⟨_, rfl⟩
  obtain ⟨v3, f3⟩ : ∃ x, x = rV 2 s2 := ⟨_, rfl⟩
  obtain ⟨n, f4⟩ : ∃ x, x = rV 1 s3 := ⟨_, rfl⟩
  obtain ⟨v5, f5⟩ : ∃ x, x = rV 2 s4 := ⟨_, rfl⟩
  obtain ⟨v6, f6⟩ : ∃ x, x = rV 2 s5 := ⟨_, rfl⟩
  obtain ⟨v7, f7⟩ : ∃ x, x = rV 2 s6 := ⟨_, rfl⟩
  obtain ⟨v8, f8⟩ : ∃ x, x = rV 2 s7 := ⟨_, rfl⟩
  obtain ⟨hi, f9⟩ : ∃ x, x = rV 4 s8 := ⟨_, rfl⟩
  obtain ⟨lo, f10⟩ : ∃ x, x = rV 4 s9 := ⟨_, rfl⟩
  have r1 : s1.1.length ≤ 100000 := by rw [e1]; have := rS_le 4 s; omega
  have r2 : s2.1.length ≤ 100000 := by rw [e2]; have := rS_le 2 s1; omega
  have r3 : s3.1.length ≤ 100000 := by rw [e3]; have := rS_le 2 s2; omega
  have r4 : s4.1.length ≤ 100000 := by rw [e4]; have := rS_le 1 s3; omega
  have r5 : s5.1.length ≤ 100000 := by rw [e5]; have := rS_le 2 s4; omega
  have r6 : s6.1.length ≤ 100000 := by rw [e6]; have := rS_le 2 s5; omega
  have r7 : s7.1.length ≤ 100000 := by rw [e7]; have := rS_le 2 s6; omega
  have r8 : s8.1.length ≤ 100000 := by rw [e8]; have := rS_le 2 s7; omega
  have r9 : s9.1.length ≤ 100000 := by rw [e9]; have := rS_le 4 s8; omega
  have r10 : s10.1.length ≤ 100000 := by rw [e10]; have := rS_le 4 s9; omega
  have a1 := fun ρ => ru32_at hlt hr ρ e1 f1
  rw [hsame] at a1
  have a2 := fun ρ => ru16_at hlt r1 ρ e2 f2
  have a3 := fun ρ => ru16_at hlt r2 ρ e3 f3
  have a4 := fun ρ => three215_at hlt hpr hpl hp r3 ρ e4 f4
  have a5 := fun ρ => ru16_at hlt r4 ρ e5 f5
  have a6 := fun ρ => ru16_at hlt r5 ρ e6 f6
  have a7 := fun ρ => ru16_at hlt r6 ρ e7 f7
  have a8 := fun ρ => ru16_at hlt r7 ρ e8 f8
  have a9 := fun ρ => ru32_at hlt r8 ρ e9 f9
  have a10 := fun ρ => ru32_at hlt r9 ρ e10 f10
  have herr := fun ρ => err_at (s := s10) hlt ρ
  have hhi : 0 ≤ hi ∧ hi < 4294967296 := by rw [f9]; exact rV_range (k := 4) s8 (by omega)
  have hlo : 0 ≤ lo ∧ lo < 4294967296 := by rw [f10]; exact rV_range (k := 4) s9 (by omega)
  have k1 : ishl .u64 hi 32 = hi * 2 ^ 32 := by unfold ishl; exact wrapU64_of (by show 0 ≤ hi * 4294967296; omega) (by show hi * 4294967296 ≤ _; omega)
  have k2 : ior .u64 (hi * 2 ^ 32) lo = hi * 4294967296 + lo := ior_low 32 hhi.1 hlo.1 (by show lo < 4294967296; omega) (by show hi * 4294967296 + lo < 18446744073709551616; omega)
  have hn : portN s = n := by rw [portN, ← e1, ← e2, ← e3, ← f4]
  have hp0 : ∀ f, port0 s f = ⟨v1, v2, v3, n / 64, n / 32 % 2 == 1, v5, n % 32, v6, v7, v8, f⟩ := fun f => by rw [port0, hn, ← e1, ← e2, ← e3, ← e4, ← e5, ← e6, ← e7, ← f1, ← f2, ← f3, ← f5, ← f6, ← f7, ← f8]
  have h10 : port10 s = s10 := by rw [port10, ← e1, ← e2, ← e3, ← e4, ← e5, ← e6, ← e7, ← e8, ← e9, ← e10]
  have hhe : portHi s = hi := by rw [portHi, ← e1, ← e2, ← e3, ← e4, ← e5, ← e6, ← e7, ← e8, ← f9]
  have hle : portLo s = lo := by rw [portLo, ← e1, ← e2, ← e3, ← e4, ← e5, ← e6, ← e7, ← e8, ← e9, ← f10]
  unfold portR
  rw [if_neg h]
  unfold TooFresh at h
  rw [hp0, h10, hhe, hle]
  rw [h10, hhe, hle] at h
  clear e1 e2 e3 e4 e5 e6 e7 e8 e9 e10 f1 f2 f3 f4 f5 f6 f7 f8 f9 f10 hn hp0 h10 hhe hle
  by_cases he : s10.2 = 0
  · have hx : ¬ (hi * 4294967296 + lo > 1099511627776) := fun q => h ⟨he, q⟩
    refine does_of [] [.cell 2 38] Try.func171 (by kernel_rfl) rfl (by kernel_rfl) fun X hR hN => ?_
    show Tw _ _ _ _ ([some _] ++ List.replicate 106 none) _
    simp only [List.replicate, List.cons_append, List.nil_append]
    have FK := And.intro @hp (And.intro @hgp (And.intro @he (And.intro @k1 (And.intro @k2 (And.intro @wrapU64_of (@hx)))))); have FD := zdum; have FL := zdum; have cA := @portBits_walk; have cB := @herr; have dA := @a1; have dB := @a2; have dC := @a3; have dD := @a4; have dE := @a5; have dF := @a6; have dG := @a7; have dH := @a8; have dI := @a9; have dJ := @a10; have eA : Eord 2 [(0, 0), (1, 0), (2, 0), (3, 1), (5, 0), (6, 0), (7, 0), (8, 1), (10, 0), (11, 0), (12, 0), (13, 1), (4, 2), (15, 0), (9, 2), (14, 2), (16, 2), (17, 0), (18, 2), (19, 0), (20, 2)] := ⟨trivial⟩; have eB : Eord 4 [(0, 0), (1, 1), (2, 0), (3, 1), (4, 0), (5, 0), (6, 1), (7, 0), (8, 2), (9, 0), (10, 2), (11, 0), (12, 2)] := ⟨trivial⟩; have eC : Eord 5 [(0, 0), (1, 0), (2, 0), (3, 1), (5, 0), (6, 0), (7, 0), (8, 1), (10, 0), (11, 0), (12, 0), (13, 1), (15, 0), (16, 0), (17, 0), (18, 1), (4, 2), (20, 0), (9, 2), (14, 2), (19, 2), (21, 2), (22, 0), (23, 2), (24, 0), (25, 2), (26, 0), (27, 2)] := ⟨trivial⟩; have eD : Eord 6 [(0, 0), (1, 0), (2, 0), (3, 1), (5, 0), (6, 0), (7, 0), (8, 1), (4, 2), (9, 2), (10, 0), (11, 0)] := ⟨trivial⟩
    refine walk ?_
    (repeat' first | exact Lv.nil | apply Lv.cons) <;> (intros; clear eD eC eB eA dJ dI dH dG dF dE dD dC dB dA cB cA FL FD FK)
    all_goals trace_state
  · refine does_of [] [.cell 2 38] Try.func171 (by kernel_rfl) rfl (by kernel_rfl) fun X hR hN => ?_
    show Tw _ _ _ _ ([some _] ++ List.replicate 106 none) _
    simp only [List.replicate, List.cons_append, List.nil_append]
    have FK := And.intro @hp (And.intro @hgp (@he)); have FD := zdum; have FL := zdum; have cA := @portBits_walk; have cB := @herr; have dA := @a1; have dB := @a2; have dC := @a3; have dD := @a4; have dE := @a5; have dF := @a6; have dG := @a7; have dH := @a8; have dI := @a9; have dJ := @a10; have eA : Eord 2 [(0, 0), (1, 0), (2, 0), (3, 1), (5, 0), (6, 0), (7, 0), (8, 1), (10, 0), (11, 0), (12, 0), (13, 1), (4, 2), (15, 0), (9, 2), (14, 2), (16, 2), (17, 0), (18, 2), (19, 0), (20, 2)] := ⟨trivial⟩; have eB : Eord 4 [(0, 0), (1, 1), (2, 0), (3, 1), (4, 0), (5, 0), (6, 1), (7, 0), (8, 2), (9, 0), (10, 2), (11, 0), (12, 2)] := ⟨trivial⟩; have eC : Eord 5 [(0, 0), (1, 0), (2, 0), (3, 1), (5, 0), (6, 0), (7, 0), (8, 1), (10, 0), (11, 0), (12, 0), (13, 1), (15, 0), (16, 0), (17, 0), (18, 1), (4, 2), (20, 0), (9, 2), (14, 2), (19, 2), (21, 2), (22, 0), (23, 2), (24, 0), (25, 2), (26, 0), (27, 2)] := ⟨trivial⟩; have eD : Eord 6 [(0, 0), (1, 0), (2, 0), (3, 1), (5, 0), (6, 0), (7, 0), (8, 1), (4, 2), (9, 2), (10, 0), (11, 0)] := ⟨trivial⟩
    refine walk ?_
    (repeat' first | exact Lv.nil | apply Lv.cons) <;> (intros; clear eD eC eB eA dJ dI dH dG dF dE dD dC dB dA cB cA FL FD FK)
    all_goals trace_state
theorem port_bad (h : TooFresh s) : TDoes Try.prog 171 [.ptr p 0] σ (.agg (portC (portR s).1)) (rAt (σ.set p (.cells [.ptr l 0, .int .i64 1])) l (portR s).2) := by
  have hlt := lt_of_get hl
  have hpl : p ≠ l := fun e => by subst e; rw [hl] at hp; cases hp
  have hsame := rAt_same hl
  have hpr := lt_of_get hp
  have hgp : ∀ x ρ, (rAt σ l x ++ ρ)[p]? = some (.cells [.ptr l 0, .int .i64 0]) := fun x ρ => by rw [List.getElem?_append_left (by rw [rAt_len]; exact hpr), rAt_p hpl]; exact hp
  have hTu : ∀ x, Turned σ (rAt σ l x) := fun x => Turned.set (Turned.refl _) rfl
  obtain ⟨s1, e1⟩ : ∃ x, x = rS 4 s := ⟨_, rfl⟩
  obtain ⟨s2, e2⟩ : ∃ x, x = rS 2 s1 := ⟨_, rfl⟩
  obtain ⟨s3, e3⟩ : ∃ x, x = rS 2 s2 := ⟨_, rfl⟩
  obtain ⟨s4, e4⟩ : ∃ x, x = rS 1 s3 := ⟨_, rfl⟩
  obtain ⟨s5, e5⟩ : ∃ x, x = rS 2 s4 := ⟨_, rfl⟩
  obtain ⟨s6, e6⟩ : ∃ x, x = rS 2 s5 := ⟨_, rfl⟩
  obtain ⟨s7, e7⟩ : ∃ x, x = rS 2 s6 := ⟨_, rfl⟩
  obtain ⟨s8, e8⟩ : ∃ x, x = rS 2 s7 := ⟨_, rfl⟩
  obtain ⟨s9, e9⟩ : ∃ x, x = rS 4 s8 := ⟨_, rfl⟩
  obtain ⟨s10, e10⟩ : ∃ x, x = rS 4 s9 := ⟨_, rfl⟩
  obtain ⟨v1, f1⟩ : ∃ x, x = rV 4 s := ⟨_, rfl⟩
  obtain ⟨v2, f2⟩ : ∃ x, x = rV 2 s1 := ⟨_, rfl⟩
  obtain ⟨v3, f3⟩ : ∃ x, x = rV 2 s2 := ⟨_, rfl⟩
  obtain ⟨n, f4⟩ : ∃ x, x = rV 1 s3 := ⟨_, rfl⟩
  obtain ⟨v5, f5⟩ : ∃ x, x = rV 2 s4 := ⟨_, rfl⟩
  obtain ⟨v6, f6⟩ : ∃ x, x = rV 2 s5 := ⟨_, rfl⟩
  obtain ⟨v7, f7⟩ : ∃ x, x = rV 2 s6 := ⟨_, rfl⟩
  obtain ⟨v8, f8⟩ : ∃ x, x = rV 2 s7 := ⟨_, rfl⟩
  obtain ⟨hi, f9⟩ : ∃ x, x = rV 4 s8 := ⟨_, rfl⟩
  obtain ⟨lo, f10⟩ : ∃ x, x = rV 4 s9 := ⟨_, rfl⟩
  have r1 : s1.1.length ≤ 100000 := by rw [e1]; have := rS_le 4 s; omega
  have r2 : s2.1.length ≤ 100000 := by rw [e2]; have := rS_le 2 s1; omega
  have r3 : s3.1.length ≤ 100000 := by rw [e3]; have := rS_le 2 s2; omega
  have r4 : s4.1.length ≤ 100000 := by rw [e4]; have := rS_le 1 s3; omega
  have r5 : s5.1.length ≤ 100000 := by rw [e5]; have := rS_le 2 s4; omega
  have r6 : s6.1.length ≤ 100000 := by rw [e6]; have := rS_le 2 s5; omega
  have r7 : s7.1.length ≤ 100000 := by rw [e7]; have := rS_le 2 s6; omega
  have r8 : s8.1.length ≤ 100000 := by rw [e8]; have := rS_le 2 s7; omega
  have r9 : s9.1.length ≤ 100000 := by rw [e9]; have := rS_le 4 s8; omega
  have r10 : s10.1.length ≤ 100000 := by rw [e10]; have := rS_le 4 s9; omega
  have a1 := fun ρ => ru32_at hlt hr ρ e1 f1
  rw [hsame] at a1
  have a2 := fun ρ => ru16_at hlt r1 ρ e2 f2
  have a3 := fun ρ => ru16_at hlt r2 ρ e3 f3
  have a4 := fun ρ => three215_at hlt hpr hpl hp r3 ρ e4 f4
  have a5 := fun ρ => ru16_at hlt r4 ρ e5 f5
  have a6 := fun ρ => ru16_at hlt r5 ρ e6 f6
  have a7 := fun ρ => ru16_at hlt r6 ρ e7 f7
  have a8 := fun ρ => ru16_at hlt r7 ρ e8 f8
  have a9 := fun ρ => ru32_at hlt r8 ρ e9 f9
  have a10 := fun ρ => ru32_at hlt r9 ρ e10 f10
  have herr := fun ρ => err_at (s := s10) hlt ρ
  have hhi : 0 ≤ hi ∧ hi < 4294967296 := by rw [f9]; exact rV_range (k := 4) s8 (by omega)
  have hlo : 0 ≤ lo ∧ lo < 4294967296 := by rw [f10]; exact rV_range (k := 4) s9 (by omega)
  have k1 : ishl .u64 hi 32 = hi * 2 ^ 32 := by unfold ishl; exact wrapU64_of (by show 0 ≤ hi * 4294967296; omega) (by show hi * 4294967296 ≤ _; omega)
  have k2 : ior .u64 (hi * 2 ^ 32) lo = hi * 4294967296 + lo := ior_low 32 hhi.1 hlo.1 (by show lo < 4294967296; omega) (by show hi * 4294967296 + lo < 18446744073709551616; omega)
  have hn : portN s = n := by rw [portN, ← e1, ← e2, ← e3, ← f4]
  have hp0 : ∀ f, port0 s f = ⟨v1, v2, v3, n / 64, n / 32 % 2 == 1, v5, n % 32, v6, v7, v8, f⟩ := fun f => by rw [port0, hn, ← e1, ← e2, ← e3, ← e4, ← e5, ← e6, ← e7, ← f1, ← f2, ← f3, ← f5, ← f6, ← f7, ← f8]
  have h10 : port10 s = s10 := by rw [port10, ← e1, ← e2, ← e3, ← e4, ← e5, ← e6, ← e7, ← e8, ← e9, ← e10]
  have hhe : portHi s = hi := by rw [portHi, ← e1, ← e2, ← e3, ← e4, ← e5, ← e6, ← e7, ← e8, ← f9]
  have hle : portLo s = lo := by rw [portLo, ← e1, ← e2, ← e3, ← e4, ← e5, ← e6, ← e7, ← e8, ← e9, ← f10]
  unfold portR
  rw [if_pos h]
  unfold TooFresh at h
  rw [hp0]
  rw [h10, hhe, hle] at h
  clear e1 e2 e3 e4 e5 e6 e7 e8 e9 e10 f1 f2 f3 f4 f5 f6 f7 f8 f9 f10 hn hp0 h10 hhe hle
  obtain ⟨he, hx⟩ := h
  obtain ⟨x10, y10⟩ := s10
  dsimp only at he
  subst he
  obtain ⟨σ', hσ⟩ : ∃ σ', σ' = σ.set p (.cells [.ptr l 0, .int .i64 1]) := ⟨_, rfl⟩
  have hlen : σ'.length = σ.length := by rw [hσ, List.length_set]
  have hset : ∀ x ρ, (rAt σ l x ++ ρ).set p (.cells [.ptr l 0, .int .i64 1]) = rAt σ' l x ++ ρ := fun x ρ => by
    rw [List.set_append_left _ _ (by rw [rAt_len]; exact hpr), hσ]
    unfold rAt
    rw [List.set_comm _ _ (Ne.symm hpl)]
  have hgq : ∀ x ρ, (rAt σ' l x ++ ρ)[p]? = some (.cells [.ptr l 0, .int .i64 1]) := fun x ρ => by
    rw [List.getElem?_append_left (by rw [rAt_len, hlen]; exact hpr), rAt_p hpl, hσ]; exact List.getElem?_set_self hpr
  have hA0 : ∀ x ρ, (rAt σ' l x ++ ρ)[σ.length]? = ρ[0]? := fun x ρ => by rw [← hlen]; exact rAt_app0
  have hA : ∀ x ρ k, (rAt σ' l x ++ ρ)[σ.length + k]? = ρ[k]? := fun x ρ k => by rw [← hlen]; exact rAt_app
  have hS0 : ∀ x ρ o, (rAt σ' l x ++ ρ).set σ.length o = rAt σ' l x ++ ρ.set 0 o := fun x ρ o => by rw [← hlen]; exact rAt_setapp0
  have hS : ∀ x ρ k o, (rAt σ' l x ++ ρ).set (σ.length + k) o = rAt σ' l x ++ ρ.set k o := fun x ρ k o => by rw [← hlen]; exact rAt_setapp
  have hTu2 : ∀ x, Turned σ (rAt σ' l x) := fun x => by
    rw [hσ]
    exact Turned.set (Turned.set (Turned.refl _) (by simp [TObj.fits, TV.fits, TV.fitsL, hlt])) rfl
  have b1 := fun ρ => rest_at (σ := σ') (l := l) (r := x10) (by rw [hlen]; exact hlt) r10 ρ
  have b2 := fun ρ => ru8_at (σ := σ') (l := l) (s := ([], 0)) (s' := ([], 10)) (v := 0) (by rw [hlen]; exact hlt) (by simp) ρ rfl rfl
  refine does_of [] [.cell 2 38] Try.func171 (by kernel_rfl) rfl (by kernel_rfl) fun X hR hN => ?_
  show Tw _ _ _ _ ([some _] ++ List.replicate 106 none) _
  simp only [List.replicate, List.cons_append, List.nil_append]
  have FK := And.intro @hp (And.intro @hgp (And.intro @hgq (And.intro @k1 (And.intro @k2 (And.intro @wrapU64_of (And.intro @hx (And.intro @hset (And.intro @hA0 (And.intro @hA (And.intro @hS0 (@hS))))))))))); have FD := zdum; have FL := zdum; have cA := @portBits_walk; have cB := @herr; have dA := @a1; have dB := @a2; have dC := @a3; have dD := @a4; have dE := @a5; have dF := @a6; have dG := @a7; have dH := @a8; have dI := @a9; have dJ := @a10; have dK := @b1; have dL := @b2; have eA : Eord 2 [(0, 0), (1, 0), (2, 0), (3, 1), (5, 0), (6, 0), (7, 0), (8, 1), (10, 0), (11, 0), (12, 0), (13, 1), (4, 2), (15, 0), (9, 2), (14, 2), (16, 2), (17, 0), (18, 2), (19, 0), (20, 2)] := ⟨trivial⟩; have eB : Eord 4 [(0, 0), (1, 1), (2, 0), (3, 1), (4, 0), (5, 0), (6, 1), (7, 0), (8, 2), (9, 0), (10, 2), (11, 0), (12, 2)] := ⟨trivial⟩; have eC : Eord 5 [(0, 0), (1, 0), (2, 0), (3, 1), (5, 0), (6, 0), (7, 0), (8, 1), (10, 0), (11, 0), (12, 0), (13, 1), (15, 0), (16, 0), (17, 0), (18, 1), (4, 2), (20, 0), (9, 2), (14, 2), (19, 2), (21, 2), (22, 0), (23, 2), (24, 0), (25, 2), (26, 0), (27, 2)] := ⟨trivial⟩; have eD : Eord 6 [(0, 0), (1, 0), (2, 0), (3, 1), (5, 0), (6, 0), (7, 0), (8, 1), (4, 2), (9, 2), (10, 0), (11, 0)] := ⟨trivial⟩
  refine walk ?_
  (repeat' first | exact Lv.nil | apply Lv.cons) <;> (intros; clear eD eC eB eA dL dK dJ dI dH dG dF dE dD dC dB dA cB cA FL FD FK)
  all_goals (rw [hσ])
end
end Go.Proofs.Ytgkcackpffimmaa
