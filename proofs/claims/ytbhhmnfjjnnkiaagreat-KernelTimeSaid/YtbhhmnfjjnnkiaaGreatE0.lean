/- What is wrong first with a network, outcome by outcome. -/
import Derived.Test.YtbhhmnfjjnnkiaaGreatD1
set_option linter.unusedVariables false
set_option linter.unusedSimpArgs false
set_option maxRecDepth 10000
set_option maxHeartbeats 2000000
namespace Go.Proofs.YtbhhmnfjjnnkiaaGreat
open Go.TM

/-- A network that is not too great. -/
structure FewC (c : Cfg) : Prop where
  ok : c.ok
  parts : c.parts.l.length ≤ 70
  wins : c.wins.l.length ≤ 260
  vls : c.vls.l.length ≤ 260
  ports : c.ports.l.length ≤ 520
  to : ∀ v ∈ c.vls.l, v.to.l.length ≤ 70

/-- A network as great as an image's may be. -/
structure BigC (c : Cfg) : Prop where
  ok : c.ok
  parts : c.parts.l.length ≤ 3000
  wins : c.wins.l.length ≤ 1000
  vls : c.vls.l.length ≤ 1000
  ports : c.ports.l.length ≤ 1000
  to : ∀ v ∈ c.vls.l, v.to.l.length ≤ 3000
theorem FewC.big {c : Cfg} (h : FewC c) : BigC c :=
  ⟨h.ok, by have := h.parts; omega, by have := h.wins; omega, by have := h.vls; omega, by have := h.ports; omega, fun v hv => by have := h.to v hv; omega⟩

theorem smax_of {c : Cfg} (h : ∀ k, k < c.vls.l.length → linkS c k = 0) : ∀ v ∈ c.vls.l, 0 ≤ v.smax ∧ v.smax ≤ 1518 := by
  intro v hv
  obtain ⟨k, hk, rfl⟩ := List.getElem_of_mem hv
  have := (linkS_zero (h k hk)).2.1
  rw [nth_eq hk] at this
  omega

/- what is wrong first, outcome by outcome -/
section
variable {c : Cfg}
theorem check_hosts (h : c.hosts < 1 ∨ c.hosts > 64) : checkS c = (1, 0, 1) := by
  unfold checkS; rw [if_pos h]
variable (h : ¬ (c.hosts < 1 ∨ c.hosts > 64))
include h
theorem check_parts {i : Nat} (hi : i < c.parts.l.length) (h1 : ∀ k, k < i → partS c k = 0) (h2 : partS c i ≠ 0) : checkS c = (2, (i : Int), 1) := by
  have he : partS c i = 1 := by
    unfold partS at h2 ⊢
    split at h2
    · rw [if_pos (by assumption)]
    · exact absurd rfl h2
  unfold checkS
  rw [if_neg h, firstBad_some.2 ⟨hi, he, by decide, h1⟩]
variable (hp : ∀ k, k < c.parts.l.length → partS c k = 0)
include hp
theorem check_frame (h1 : c.major < 1 ∨ c.major > 1073741824) : checkS c = (3, 0, 1) := by
  unfold checkS; rw [if_neg h, firstBad_none.2 hp]; simp only; rw [if_pos h1]
variable (hm : ¬ (c.major < 1 ∨ c.major > 1073741824))
include hm
theorem check_wins {i : Nat} (hi : i < c.wins.l.length) (h1 : ∀ k, k < i → winS c k = 0) (h2 : winS c i ≠ 0) : checkS c = (4, (i : Int), winS c i) := by
  unfold checkS; rw [if_neg h, firstBad_none.2 hp]; simp only; rw [if_neg hm, firstBad_some.2 ⟨hi, rfl, h2, h1⟩]
variable (hw : ∀ k, k < c.wins.l.length → winS c k = 0)
include hw
theorem check_links {i : Nat} (hi : i < c.vls.l.length) (h1 : ∀ k, k < i → linkS c k = 0) (h2 : linkS c i ≠ 0) : checkS c = (5, (i : Int), linkS c i) := by
  unfold checkS; rw [if_neg h, firstBad_none.2 hp]; simp only; rw [if_neg hm, firstBad_none.2 hw]; simp only; rw [firstBad_some.2 ⟨hi, rfl, h2, h1⟩]
variable (hl : ∀ k, k < c.vls.l.length → linkS c k = 0)
include hl
theorem check_ports {i : Nat} (hi : i < c.ports.l.length) (h1 : ∀ k, k < i → portS c k = 0) (h2 : portS c i ≠ 0) : checkS c = (6, (i : Int), portS c i) := by
  unfold checkS; rw [if_neg h, firstBad_none.2 hp]; simp only; rw [if_neg hm, firstBad_none.2 hw]; simp only; rw [firstBad_none.2 hl]; simp only; rw [firstBad_some.2 ⟨hi, rfl, h2, h1⟩]
variable (hq : ∀ k, k < c.ports.l.length → portS c k = 0)
include hq
theorem check_late {i : Nat} (hi : i < c.hosts.toNat) (h1 : ∀ k, k < i → lateS c k = 0) (h2 : lateS c i ≠ 0) : checkS c = (7, (i : Int), 26) := by
  have he : lateS c i = 26 := by
    unfold lateS at h2 ⊢
    split at h2
    · rw [if_pos (by assumption)]
    · exact absurd rfl h2
  unfold checkS; rw [if_neg h, firstBad_none.2 hp]; simp only; rw [if_neg hm, firstBad_none.2 hw]; simp only; rw [firstBad_none.2 hl]; simp only; rw [firstBad_none.2 hq]; simp only; rw [firstBad_some.2 ⟨hi, he, by decide, h1⟩]
theorem check_ok (h1 : ∀ k, k < c.hosts.toNat → lateS c k = 0) : checkS c = (0, 0, 0) := by
  unfold checkS; rw [if_neg h, firstBad_none.2 hp]; simp only; rw [if_neg hm, firstBad_none.2 hw]; simp only; rw [firstBad_none.2 hl]; simp only; rw [firstBad_none.2 hq]; simp only; rw [firstBad_none.2 h1]
end
end Go.Proofs.YtbhhmnfjjnnkiaaGreat
