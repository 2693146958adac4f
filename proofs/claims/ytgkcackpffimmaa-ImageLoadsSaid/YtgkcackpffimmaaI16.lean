/- What an image's network takes of the bytes, and how great it may be. -/
import Derived.Test.YtgkcackpffimmaaI15
import Derived.Test.YtgkcackpffimmaaH0
import Derived.Test.YtgkcackpffimmaaF6
set_option linter.unusedVariables false
set_option linter.unusedSimpArgs false
set_option maxRecDepth 10000
set_option maxHeartbeats 4000000
namespace Go.Proofs.Ytgkcackpffimmaa
open Go.TM

abbrev noC : Cfg := ⟨0, Row.none, 0, Row.none, Row.none, Row.none⟩
/-- What opened bytes are, behind what they begin with. -/
noncomputable def loadN (s : RSt) : Cfg × Int :=
  if netBad s = true then (noC, 1) else if (netPorts s).2.2 ≠ 0 then (noC, (netPorts s).2.2) else if 0 < (netPorts s).2.1.length then (noC, 11)
  else if (checkS (netC11 s)).2.2 ≠ 0 then (noC, (checkS (netC11 s)).2.2) else (netC11 s, 0)
noncomputable def loadT (t : List UInt8) : Cfg × Int :=
  if t.length < 6 then (noC, 10) else if t.take 6 ≠ [65, 70, 68, 88, 0, 1] then (noC, 13) else loadN (t.drop 6, 0)
noncomputable def loadL (s : List UInt8) : Cfg × Int := if (openL s).2 ≠ 0 then (noC, (openL s).2) else loadT (openL s).1

theorem rS_ok {k : Nat} {s : RSt} (h : (rS k s).2 = 0) : s.2 = 0 ∧ (rS k s).1.length + k = s.1.length := by
  unfold rS rT at h ⊢
  split at h
  · rename_i q; exact absurd h q
  · rename_i q
    split at h
    · rename_i q2
      rw [if_neg q, if_pos q2]
      exact ⟨by omega, by simp; omega⟩
    · cases h
def Eats {α : Type} (f : RSt → α × RSt) (k : Nat) : Prop := ∀ s, (f s).2.2 = 0 → s.2 = 0 ∧ (f s).2.1.length + k ≤ s.1.length
theorem tkN_eats {α : Type} {f : RSt → α × RSt} {k : Nat} (hf : Eats f k) : ∀ (n : Nat) (s : RSt), (tkN f n s).2.2 = 0 → s.2 = 0 ∧ (tkN f n s).1.length * k + (tkN f n s).2.1.length ≤ s.1.length
  | 0, s, h => ⟨h, by rw [tkN]; simp⟩
  | n + 1, s, h => by
    by_cases he : s.2 = 0
    · rw [tkN_ok he] at h ⊢
      have h1 := tkN_eats hf n _ h
      have h2 := hf s h1.1
      refine ⟨he, ?_⟩
      show ((f s).1 :: (tkN f n (f s).2).1).length * k + (tkN f n (f s).2).2.1.length ≤ _
      rw [List.length_cons, Nat.add_mul]
      omega
    · rw [tkN_err he] at h; exact absurd h he
theorem tk_eats {α : Type} {f : RSt → α × RSt} {k : Nat} (hf : Eats f k) (s : RSt) (h : (tk f s).2.2 = 0) : s.2 = 0 ∧ (tk f s).1.length * k + (tk f s).2.1.length + 2 ≤ s.1.length := by
  have h1 := tkN_eats hf _ _ h
  have h2 := rS_ok h1.1
  have h3 := h1.2
  exact ⟨h2.1, by unfold tk; omega⟩
theorem tkN_mem {α : Type} {f : RSt → α × RSt} {x : α} : ∀ {n : Nat} {s : RSt}, x ∈ (tkN f n s).1 → ∃ s', x = (f s').1
  | 0, s, h => by rw [tkN] at h; cases h
  | n + 1, s, h => by
    by_cases he : s.2 = 0
    · rw [tkN_ok he] at h
      rcases List.mem_cons.1 h with h | h
      · exact ⟨s, h⟩
      · exact tkN_mem h
    · rw [tkN_err he] at h; cases h
theorem tk_mem {α : Type} {f : RSt → α × RSt} {x : α} {s : RSt} (h : x ∈ (tk f s).1) : ∃ s', x = (f s').1 := tkN_mem h
theorem tkN_mem2 {α : Type} {f : RSt → α × RSt} {k : Nat} (hf : Eats f k) {x : α} : ∀ {n : Nat} {s : RSt}, (tkN f n s).2.2 = 0 → x ∈ (tkN f n s).1 → ∃ s', x = (f s').1 ∧ (f s').2.2 = 0 ∧ s'.1.length ≤ s.1.length
  | 0, s, _, h => by rw [tkN] at h; cases h
  | n + 1, s, h0, h => by
    by_cases he : s.2 = 0
    · rw [tkN_ok he] at h h0
      have h1 := tkN_eats hf n _ h0
      rcases List.mem_cons.1 h with h | h
      · exact ⟨s, h, h1.1, Nat.le_refl _⟩
      · obtain ⟨s', e1, e2, e3⟩ := tkN_mem2 hf h0 h
        have := (hf s h1.1).2
        exact ⟨s', e1, e2, by omega⟩
    · rw [tkN_err he] at h; cases h
theorem tkN_count {α : Type} {f : RSt → α × RSt} : ∀ (n : Nat) (s : RSt), (tkN f n s).1.length ≤ n
  | 0, s => by rw [tkN]; simp
  | n + 1, s => by
    rw [tkN]
    split
    · simp
    · rw [List.length_cons]; have := tkN_count (f := f) n (f s).2; omega
theorem tk_count {α : Type} {f : RSt → α × RSt} (s : RSt) : (tk f s).1.length ≤ 65535 := by
  have h1 := tkN_count (f := f) (rV 2 s).toNat (rS 2 s)
  have h2 := rV2_le s
  unfold tk
  omega
theorem eatsI : Eats intR 2 := fun s h => by have := rS_ok (k := 2) h; exact ⟨this.1, by show (rS 2 s).1.length + 2 ≤ _; omega⟩
theorem eatsW : Eats winR 10 := fun s h => by
  have h3 := rS_ok (k := 4) h
  have h2 := rS_ok (k := 4) h3.1
  have h1 := rS_ok (k := 2) h2.1
  exact ⟨h1.1, by show (rS 4 (rS 4 (rS 2 s))).1.length + 10 ≤ _; omega⟩
theorem eatsV : Eats linkR 13 := fun s h => by
  have h6 := tk_eats eatsI _ h
  have h5 := rS_ok (k := 4) h6.1
  have h4 := rS_ok (k := 2) h5.1
  have h3 := rS_ok (k := 1) h4.1
  have h2 := rS_ok (k := 2) h3.1
  have h1 := rS_ok (k := 2) h2.1
  exact ⟨h1.1, by show (tk intR (rS 4 (rS 2 (rS 1 (rS 2 (rS 2 s)))))).2.1.length + 13 ≤ _; omega⟩
theorem eatsP : Eats portR 25 := fun s h => by
  unfold portR at h ⊢
  split at h
  · cases h
  · rename_i q
    rw [if_neg q]
    have h10 := rS_ok (k := 4) h
    have h9 := rS_ok (k := 4) h10.1
    have h8 := rS_ok (k := 2) h9.1
    have h7 := rS_ok (k := 2) h8.1
    have h6 := rS_ok (k := 2) h7.1
    have h5 := rS_ok (k := 2) h6.1
    have h4 := rS_ok (k := 1) h5.1
    have h3 := rS_ok (k := 2) h4.1
    have h2 := rS_ok (k := 2) h3.1
    have h1 := rS_ok (k := 4) h2.1
    exact ⟨h1.1, by show (port10 s).1.length + 25 ≤ _; unfold port10; omega⟩

theorem I64_rV (k : Nat) (hk : k ≤ 4) (s : RSt) : I64 (rV k s) := by
  have h := rV_range s hk
  have h2 : (256 : Int) ^ k ≤ 256 ^ 4 := by
    have := Nat.pow_le_pow_right (n := 256) (by decide) hk
    exact_mod_cast this
  have h3 : (256 : Int) ^ 4 = 4294967296 := by decide
  unfold I64
  omega
theorem I64_of {n a b : Int} (h : a ≤ n ∧ n ≤ b) (ha : -9223372036854775808 ≤ a) (hb : b ≤ 9223372036854775807) : I64 n := by unfold I64; omega
theorem rV1_le (s : RSt) : 0 ≤ rV 1 s ∧ rV 1 s ≤ 255 := by
  have := rV_range (k := 1) s (by omega)
  exact ⟨this.1, by have := this.2; simp at this; omega⟩
theorem I64_wrap (n : Int) : I64 (IntKind.i64.wrap n) := by
  unfold I64 IntKind.wrap
  simp only [IntKind.bits, IntKind.signed, Bool.true_and]
  split <;> rename_i h <;> simp only [ge_iff_le, decide_eq_true_eq] at h <;> omega
theorem I64_ior (a b : Int) : I64 (ior .i64 a b) := I64_wrap _
theorem netC_ok (s : RSt) : (netC11 s).ok where
  hosts := I64_rV 2 (by omega) s
  major := I64_rV 4 (by omega) _
  lparts := by have := tk_count (f := intR) (rS 2 s); show (netParts s).1.length ≤ _; unfold netParts; omega
  lwins := by have := tk_count (f := winR) (rS 4 (netParts s).2); show (netWins s).1.length ≤ _; unfold netWins; omega
  lvls := by have := tk_count (f := linkR) (netWins s).2; show (netLinks s).1.length ≤ _; unfold netLinks; omega
  lports := by have := tk_count (f := portR) (netLinks s).2; show (netPorts s).1.length ≤ _; unfold netPorts; omega
  parts := by
    intro x hx
    obtain ⟨s', rfl⟩ := tk_mem (f := intR) hx
    exact I64_rV 2 (by omega) s'
  wins := by
    intro x hx
    obtain ⟨s', rfl⟩ := tk_mem (f := winR) hx
    exact ⟨I64_rV 2 (by omega) _, I64_rV 4 (by omega) _, I64_rV 4 (by omega) _⟩
  vls := by
    intro x hx
    obtain ⟨s', rfl⟩ := tk_mem (f := linkR) hx
    have hn := rV1_le (rS 2 (rS 2 s'))
    refine ⟨I64_rV 2 (by omega) _, I64_rV 2 (by omega) _, ?_, I64_rV 2 (by omega) _, ?_, I64_rV 4 (by omega) _, ?_, ?_⟩
    · show I64 (rV 1 (rS 2 (rS 2 s')) / 16)
      unfold I64; omega
    · show I64 (rV 1 (rS 2 (rS 2 s')) % 8)
      unfold I64; omega
    · have := tk_count (f := intR) (rS 4 (rS 2 (rS 1 (rS 2 (rS 2 s')))))
      show (tk intR (rS 4 (rS 2 (rS 1 (rS 2 (rS 2 s')))))).1.length ≤ _
      omega
    · intro h hh
      obtain ⟨s'', rfl⟩ := tk_mem (f := intR) hh
      exact I64_rV 2 (by omega) s''
  ports := by
    intro x hx
    obtain ⟨s', rfl⟩ := tk_mem (f := portR) hx
    have hn := rV1_le (rS 2 (rS 2 (rS 4 s')))
    have h1 : I64 (portN s' / 64) := by unfold I64 portN; omega
    have h2 : I64 (portN s' % 32) := by unfold I64 portN; omega
    have h3 : ∀ f, I64 f → (port0 s' f).ok := fun f hf =>
      ⟨I64_rV 4 (by omega) _, I64_rV 2 (by omega) _, I64_rV 2 (by omega) _, h1, I64_rV 2 (by omega) _, h2, I64_rV 2 (by omega) _, I64_rV 2 (by omega) _, I64_rV 2 (by omega) _, hf⟩
    unfold portR
    split
    · exact h3 0 (by unfold I64; omega)
    · exact h3 _ (I64_ior _ _)
theorem netC_big {s : RSt} (hs : s.1.length ≤ 5000) (h : (netPorts s).2.2 = 0) : BigC (netC11 s) := by
  have h4 := tk_eats eatsP _ h
  have h3 := tk_eats eatsV _ h4.1
  have h2 := tk_eats eatsW _ h3.1
  have h1 := rS_ok (k := 4) h2.1
  have h0 := tk_eats eatsI _ h1.1
  have hh := rS_ok (k := 2) h0.1
  have e0 := h0.2
  have e1 := h1.2
  have e2 := h2.2
  have e3 := h3.2
  have e4 := h4.2
  have eh := hh.2
  change (netParts s).1.length * 2 + (netParts s).2.1.length + 2 ≤ _ at e0
  change (rS 4 (netParts s).2).1.length + 4 = (netParts s).2.1.length at e1
  change (netWins s).1.length * 10 + (netWins s).2.1.length + 2 ≤ _ at e2
  change (netLinks s).1.length * 13 + (netLinks s).2.1.length + 2 ≤ _ at e3
  change (netPorts s).1.length * 25 + (netPorts s).2.1.length + 2 ≤ _ at e4
  refine ⟨netC_ok s, ?_, ?_, ?_, ?_, ?_⟩
  · show (netParts s).1.length ≤ _
    omega
  · show (netWins s).1.length ≤ _
    omega
  · show (netLinks s).1.length ≤ _
    omega
  · show (netPorts s).1.length ≤ _
    omega
  · intro v hv
    obtain ⟨s', rfl, q1, q2⟩ := tkN_mem2 eatsV h4.1 hv
    have q3 := (tk_eats eatsI _ q1).2
    have q4 := rS_le 2 (netWins s).2
    have q5 := rS_le 2 s'
    have q6 := rS_le 2 (rS 2 s')
    have q7 := rS_le 1 (rS 2 (rS 2 s'))
    have q8 := rS_le 2 (rS 1 (rS 2 (rS 2 s')))
    have q9 := rS_le 4 (rS 2 (rS 1 (rS 2 (rS 2 s'))))
    show (tk intR (rS 4 (rS 2 (rS 1 (rS 2 (rS 2 s')))))).1.length ≤ _
    omega
end Go.Proofs.Ytgkcackpffimmaa
