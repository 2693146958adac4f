/- Plain laws of networks that may be: what is kept when a network becomes smaller. -/
import Derived.Test.YtgkcackpffimmaaE0
import Derived.Test.YtgkcackpffimmaaF3
set_option linter.unusedVariables false
set_option linter.unusedSimpArgs false
set_option maxRecDepth 10000
namespace Go.Proofs.Ytgkcackpffimmaa
open Go.TM

/-- A network that may be. -/
structure OkC (c : Cfg) : Prop where
  hosts : ¬ (c.hosts < 1 ∨ c.hosts > 64)
  parts : ∀ k, k < c.parts.l.length → partS c k = 0
  major : ¬ (c.major < 1 ∨ c.major > 1073741824)
  wins : ∀ k, k < c.wins.l.length → winS c k = 0
  links : ∀ k, k < c.vls.l.length → linkS c k = 0
  ports : ∀ k, k < c.ports.l.length → portS c k = 0
  late : ∀ k, k < c.hosts.toNat → lateS c k = 0

theorem OkC.check {c : Cfg} (h : OkC c) : checkS c = (0, 0, 0) := check_ok h.hosts h.parts h.major h.wins h.links h.ports h.late

theorem okC_of {c : Cfg} (h : (checkS c).2.2 = 0) : OkC c := by
  by_cases h1 : c.hosts < 1 ∨ c.hosts > 64
  · rw [check_hosts h1] at h; cases h
  cases hA : firstBad c.parts.l.length (partS c) with
  | some x =>
    obtain ⟨i, e⟩ := x
    have q := firstBad_some.1 hA
    rw [check_parts h1 q.1 q.2.2.2 (by rw [q.2.1]; exact q.2.2.1)] at h; cases h
  | none =>
    have hp := firstBad_none.1 hA
    by_cases h2 : c.major < 1 ∨ c.major > 1073741824
    · rw [check_frame h1 hp h2] at h; cases h
    cases hB : firstBad c.wins.l.length (winS c) with
    | some x =>
      obtain ⟨i, e⟩ := x
      have q := firstBad_some.1 hB
      rw [check_wins h1 hp h2 q.1 q.2.2.2 (by rw [q.2.1]; exact q.2.2.1)] at h
      exact absurd (q.2.1.symm.trans h) q.2.2.1
    | none =>
      have hw := firstBad_none.1 hB
      cases hC : firstBad c.vls.l.length (linkS c) with
      | some x =>
        obtain ⟨i, e⟩ := x
        have q := firstBad_some.1 hC
        rw [check_links h1 hp h2 hw q.1 q.2.2.2 (by rw [q.2.1]; exact q.2.2.1)] at h
        exact absurd (q.2.1.symm.trans h) q.2.2.1
      | none =>
        have hl := firstBad_none.1 hC
        cases hD : firstBad c.ports.l.length (portS c) with
        | some x =>
          obtain ⟨i, e⟩ := x
          have q := firstBad_some.1 hD
          rw [check_ports h1 hp h2 hw hl q.1 q.2.2.2 (by rw [q.2.1]; exact q.2.2.1)] at h
          exact absurd (q.2.1.symm.trans h) q.2.2.1
        | none =>
          have hq := firstBad_none.1 hD
          cases hE : firstBad c.hosts.toNat (lateS c) with
          | some x =>
            obtain ⟨i, e⟩ := x
            have q := firstBad_some.1 hE
            rw [check_late h1 hp h2 hw hl hq q.1 q.2.2.2 (by rw [q.2.1]; exact q.2.2.1)] at h; cases h
          | none => exact ⟨h1, hp, h2, hw, hl, hq, firstBad_none.1 hE⟩

end Go.Proofs.Ytgkcackpffimmaa
