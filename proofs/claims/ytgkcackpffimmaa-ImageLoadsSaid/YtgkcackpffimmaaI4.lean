/- The image: Encode. -/
import Derived.Test.YtgkcackpffimmaaI3
import Derived.Test.YtgkcackpffimmaaF6
import Derived.Test.YtgkcackpffimmaaH0
set_option linter.unusedVariables false
set_option linter.unusedSimpArgs false
set_option maxRecDepth 10000
set_option maxHeartbeats 4000000
namespace Go.Proofs.Ytgkcackpffimmaa
open Go.TM

/- what a network that may be holds -/
structure MayC (c : Cfg) : Prop where
  hosts : 1 ≤ c.hosts ∧ c.hosts ≤ 64
  parts : ∀ k, k < c.parts.l.length → partS c k = 0
  major : 1 ≤ c.major ∧ c.major ≤ 1073741824
  wins : ∀ k, k < c.wins.l.length → winS c k = 0
  vls : ∀ k, k < c.vls.l.length → linkS c k = 0
  ports : ∀ k, k < c.ports.l.length → portS c k = 0
theorem mayC {c : Cfg} (h : (checkS c).2.2 = 0) : MayC c := by
  unfold checkS at h
  split at h
  · cases h
  · rename_i hh
    split at h
    · rename_i i e hA
      exact absurd h (firstBad_some.1 hA).2.2.1
    · rename_i hA
      split at h
      · cases h
      · rename_i hm
        split at h
        · rename_i i e hB
          exact absurd h (firstBad_some.1 hB).2.2.1
        · rename_i hB
          split at h
          · rename_i i e hC
            exact absurd h (firstBad_some.1 hC).2.2.1
          · rename_i hC
            split at h
            · rename_i i e hD
              exact absurd h (firstBad_some.1 hD).2.2.1
            · rename_i hD
              exact ⟨by omega, firstBad_none.1 hA, by omega, firstBad_none.1 hB, firstBad_none.1 hC, firstBad_none.1 hD⟩
theorem checkS_bad {c : Cfg} (h : (checkS c).2.2 = 0) : checkS c = (0, 0, 0) := by
  unfold checkS at h ⊢
  split at h
  · cases h
  · rename_i hh
    rw [if_neg hh]
    split at h
    · rename_i i e hA
      exact absurd h (firstBad_some.1 hA).2.2.1
    · rename_i hA
      (try rw [hA])
      (try simp only)
      split at h
      · cases h
      · rename_i hm
        rw [if_neg hm]
        split at h
        · rename_i i e hB
          exact absurd h (firstBad_some.1 hB).2.2.1
        · rename_i hB
          (try rw [hB])
          (try simp only)
          split at h
          · rename_i i e hC
            exact absurd h (firstBad_some.1 hC).2.2.1
          · rename_i hC
            (try rw [hC])
            (try simp only)
            split at h
            · rename_i i e hD
              exact absurd h (firstBad_some.1 hD).2.2.1
            · rename_i hD
              (try rw [hD])
              (try simp only)
              split at h
              · rename_i i e hE
                exact absurd h (firstBad_some.1 hE).2.2.1
              · rename_i hE
                first | rw [hE] | rfl
theorem mem_nth {α : Type} [Inhabited α] {x : α} {l : List α} (h : x ∈ l) : ∃ k, k < l.length ∧ nth l k = x := by
  obtain ⟨k, hk, rfl⟩ := List.getElem_of_mem h
  exact ⟨k, hk, nth_eq hk⟩
section
variable {c : Cfg} (h : MayC c) (hf : FewC c)
include h
theorem MayC.partF : ∀ x ∈ c.parts.l, F16 x := by
  intro x hx
  obtain ⟨k, hk, rfl⟩ := mem_nth hx
  have h1 := h.parts k hk
  have h2 := h.hosts
  unfold partS at h1
  split at h1
  · cases h1
  · rename_i q
    have : IsHost c (nth c.parts.l k) := by
      by_cases hq : IsHost c (nth c.parts.l k)
      · exact hq
      · exact absurd (Or.inr hq) q
    exact ⟨this.1, by have := this.2; omega⟩
include hf
theorem MayC.winF : ∀ x ∈ c.wins.l, WinF x := by
  intro x hx
  obtain ⟨k, hk, rfl⟩ := mem_nth hx
  have h1 := winS_zero (h.wins k hk)
  have h2 := h.major
  have h3 := hf.parts
  obtain ⟨_, ⟨a, b⟩, c1, c2, c3, c4, _⟩ := h1
  exact ⟨⟨a, by omega⟩, ⟨c1, by omega⟩, ⟨by omega, by omega⟩⟩
theorem MayC.linkF : ∀ x ∈ c.vls.l, LinkF x := by
  intro x hx
  obtain ⟨k, hk, rfl⟩ := mem_nth hx
  have h1 := linkS_zero (h.vls k hk)
  have h2 := h.hosts
  have h4 := hf.to _ (nth_mem hk)
  obtain ⟨_, q, _, _, q2⟩ := h1
  have q3 : ∀ x ∈ (nth c.vls.l k).to.l, F16 x := fun x hx => by
    obtain ⟨j, hj, rfl⟩ := mem_nth hx
    have := (q2 j hj).1
    exact ⟨this.1, by have := this.2; omega⟩
  have q4 : IsHost c (nth c.vls.l k).host := by
    by_cases hq : IsHost c (nth c.vls.l k).host
    · exact hq
    · exact absurd (by unfold LinkOff; simp [hq]) q
  unfold LinkOff at q
  have q5 := q4.1
  have q6 := q4.2
  clear q4
  exact ⟨⟨by omega, by omega⟩, ⟨by omega, by omega⟩, ⟨by omega, by omega⟩, ⟨by omega, by omega⟩, ⟨by omega, by omega⟩, ⟨by omega, by omega⟩, by omega, q3⟩
theorem MayC.portF (hid : ∀ p ∈ c.ports.l, p.id ≤ 4294967295) : ∀ x ∈ c.ports.l, PortF x := by
  intro x hx
  have hi := hid x hx
  obtain ⟨k, hk, rfl⟩ := mem_nth hx
  have h1 := h.ports k hk
  have h3 := hf.parts
  unfold portS at h1
  split at h1
  · cases h1
  · rename_i q1
    split at h1
    · cases h1
    · split at h1
      · cases h1
      · rename_i v hv
        split at h1
        · cases h1
        · rename_i q2
          split at h1
          · rename_i q3
            exact absurd h1 q3
          · rename_i q3
            have hv0 : portV (nth c.ports.l k) v = 0 := by simpa using q3
            have vf := MayC.linkF h hf v (List.mem_of_find?_eq_some hv)
            have vid : v.id = (nth c.ports.l k).vl := by
              have := List.find?_some hv
              simpa using this
            have hp : IsPart c (nth c.ports.l k).part := by
              by_cases hq : IsPart c (nth c.ports.l k).part
              · exact hq
              · exact absurd (Or.inr (by unfold PortOff; simp [hq])) q1
            have p1 := hp.1
            have p2 := hp.2
            have hh := MayC.partF h (nth c.parts.l (nth c.ports.l k).part.toNat) (nth_mem (by omega))
            rw [← Decidable.not_not.1 q2] at hh
            obtain ⟨v1, v2, _, v4, _⟩ := vf
            rw [vid] at v1
            unfold PortOff at q1
            clear hp h1
            unfold portV at hv0
            split at hv0
            · cases hv0
            · split at hv0
              · cases hv0
              · split at hv0
                · cases hv0
                · split at hv0
                  · cases hv0
                  · have hk : (nth c.ports.l k).kind = 1 ∨ (nth c.ports.l k).kind = 2 := by omega
                    cases ho : (nth c.ports.l k).out <;> simp only [ho, true_and, false_and, Bool.false_eq_true, Bool.true_eq_false, or_false, false_or] at * <;>
                      exact ⟨⟨by omega, by omega⟩, hh, ⟨by omega, by omega⟩, ⟨by omega, by omega⟩, ⟨by omega, by omega⟩, v1, ⟨by omega, by omega⟩, ⟨by omega, by omega⟩, ⟨by omega, by omega⟩, ⟨by omega, by omega⟩⟩
end

def imgL (c : Cfg) : List UInt8 := [65, 70, 68, 88] ++ be 2 1 ++ be 2 c.hosts ++ intsB c.parts.l ++ be 4 c.major ++ (be 2 c.wins.l.length ++ c.wins.l.flatMap winB) ++ (be 2 c.vls.l.length ++ c.vls.l.flatMap linkB) ++ (be 2 c.ports.l.length ++ c.ports.l.flatMap portB)
open Classical in
noncomputable def encI (c : Cfg) : List UInt8 × Int := if (checkS c).2.2 ≠ 0 then ([], (checkS c).2.2) else if ∃ k, k < c.ports.l.length ∧ (nth c.ports.l k).id > 4294967295 then ([], 11) else (sealL (imgL c), 0)

section
variable {c : Cfg}
theorem imgL_len (h : FewC c) : (imgL c).length ≤ 90000 := by
  have h1 := h.parts
  have h2 := h.wins
  have h3 := h.vls
  have h4 := h.ports
  have h5 := h.to
  have e1 : (c.wins.l.flatMap winB).length ≤ 260 * 10 := flat_le (fun w _ => by rw [winB_len]; omega) h2
  have e2 : (c.vls.l.flatMap linkB).length ≤ 260 * 153 := flat_le (fun w hw => by rw [linkB_len]; have := h5 w hw; omega) h3
  have e3 : (c.ports.l.flatMap portB).length ≤ 520 * 25 := flat_le (fun w _ => by rw [portB_len]; omega) h4
  simp only [imgL, List.length_append, be_len, intsB_len, List.length_cons, List.length_nil]
  omega
end
theorem at_p {σ : TS} {l t p : Nat} {b : List UInt8} (hp : σ[p]? = some (.cells [.ptr l 0])) (ρ : TS) (hpl : p ≠ l) (hpt : p ≠ t) : (wAt σ l t b ++ ρ)[p]? = some (.cells [.ptr l 0]) := by
  rw [List.getElem?_append_left (by rw [wAt_len]; exact lt_of_get hp), wAt_p hpl hpt]; exact hp
theorem bytes_at {σ : TS} {l t : Nat} {bs : List UInt8} (h : WB σ l t) (ρ : TS) : TPure Try.prog 99 [.ptr l 0] (wAt σ l t bs ++ ρ) (.tup [.str (B bs), .int .i64 0]) :=
  bytes_walk (h.gl ρ bs)
section
variable {σ : TS} {l t p : Nat} {b : List UInt8} (h : WB σ l t) (hp : σ[p]? = some (.cells [.ptr l 0])) (ρ : TS) {b' : List UInt8}
include h
theorem layI_to (r : Row Int) (hn : r.l.length ≤ 65535) (hx : ∀ x ∈ r.l, F16 x) (hb : b.length ≤ 10000000) (e : b' = b ++ intsB r.l) : TDoes Try.prog 87 [.ptr l 0, rowTV intC r, .func (.func 86) [.ptr l 0] []] (wAt σ l t b ++ ρ) (.tup []) (wAt σ l t b' ++ ρ) := by
  subst e
  have := layI_walk (h.gl ρ b) (h.gt ρ b) r hn hx hb
  unfold wAt at this
  rwa [show wSet σ l t b false = wAt σ l t b from rfl, wSet_app h.hl h.ht h.ne] at this
include hp
variable (hpl : p ≠ l) (hpt : p ≠ t)
include hpl hpt
theorem layW_to (r : Row Win) (hn : r.l.length ≤ 600) (hx : ∀ x ∈ r.l, WinF x) (hb : b.length ≤ 1000000) (e : b' = b ++ (be 2 r.l.length ++ r.l.flatMap winB)) : TDoes Try.prog 89 [.ptr l 0, rowTV winC r, .func (.func 90) [] [.ptr p 0]] (wAt σ l t b ++ ρ) (.tup []) (wAt σ l t b' ++ ρ) := by
  subst e
  have := layW_walk (h.gl ρ b) (h.gt ρ b) (at_p hp ρ hpl hpt) r hn hx hb
  unfold wAt at this
  rwa [show wSet σ l t b false = wAt σ l t b from rfl, wSet_app h.hl h.ht h.ne] at this
theorem layV_to (r : Row Link) (hn : r.l.length ≤ 600) (hx : ∀ x ∈ r.l, LinkF x) (hb : b.length ≤ 1000000) (e : b' = b ++ (be 2 r.l.length ++ r.l.flatMap linkB)) : TDoes Try.prog 91 [.ptr l 0, rowTV linkC r, .func (.func 92) [] [.ptr p 0]] (wAt σ l t b ++ ρ) (.tup []) (wAt σ l t b' ++ ρ) := by
  subst e
  have := layV_walk (h.gl ρ b) (h.gt ρ b) (at_p hp ρ hpl hpt) r hn hx hb
  unfold wAt at this
  rwa [show wSet σ l t b false = wAt σ l t b from rfl, wSet_app h.hl h.ht h.ne] at this
theorem layP_to (r : Row Port) (hn : r.l.length ≤ 600) (hx : ∀ x ∈ r.l, PortF x) (hb : b.length ≤ 1000000) (e : b' = b ++ (be 2 r.l.length ++ r.l.flatMap portB)) : TDoes Try.prog 96 [.ptr l 0, rowTV portC r, .func (.func 97) [] [.ptr p 0]] (wAt σ l t b ++ ρ) (.tup []) (wAt σ l t b' ++ ρ) := by
  subst e
  have := layP_walk (h.gl ρ b) (h.gt ρ b) (at_p hp ρ hpl hpt) r hn hx hb
  unfold wAt at this
  rwa [show wSet σ l t b false = wAt σ l t b from rfl, wSet_app h.hl h.ht h.ne] at this
end

theorem encodeI_walk (c : Cfg) (h : FewC c) (σ : TS) : TPure Try.prog 32 [cfgTV c] σ (.tup [.str (B (encI c).1), .int .i64 (encI c).2]) := by
  have hck := check_walk c h
  have lo := h.ports
  by_cases hb : (checkS c).2.2 = 0
  · have hm := mayC hb
    rw [checkS_bad hb] at hck
    by_cases hx : ∃ k, k < c.ports.l.length ∧ (nth c.ports.l k).id > 4294967295
    · have hv : encI c = ([], 11) := by unfold encI; rw [if_neg (by omega), if_pos hx]
      rw [hv]
      refine pure_of [] [.tmp 2, .tmp 3] Try.func32 (by kernel_rfl) rfl (by kernel_rfl) fun X hR hN => ?_
      show Tw _ _ _ _ ([some _] ++ List.replicate 74 none) _
      simp only [List.replicate, List.cons_append, List.nil_append]
      have FK := zdum; have FD := zdum; have FL := zdum; have cA := @hck
      refine walk ?_
      (repeat' first | exact Lv.nil | apply Lv.cons) <;> (intros; clear cA FL FD FK)
      refine T_each (α := Nat × TS) (fun (i, τ) => [none, some (some (.ptr σ.length 0)), none, none, none, none, none, none, none, none, none, none, none, none, none, none, none, none, none, none, some (some (rowTV portC c.ports)), some (some (.int .i64 c.ports.l.length)), some (some (.int .i64 i)), none, none, none, none, none, none, none, none, none, none, none, none, none, none, none, none, none, none, none, none, none, none, none, none, none, none, none, none, none, none, none, none, none, none, none, none, none, none, none, none, none, none, none, none, none, none, none, none, none, none, none, none]) (fun (i, τ) => i ≤ c.ports.l.length ∧ (∀ k, k < i → (nth c.ports.l k).id ≤ 4294967295)) (fun (i, τ) => c.ports.l.length - i) (fun (i, τ) => σ ++ (.cells (cfgC c) :: τ)) ?_ ?_
      · exact ⟨(0, _), ⟨rfl, rfl, rfl, rfl, trivial⟩, ⟨Nat.zero_le _, fun k hk => absurd hk (Nat.not_lt_zero _)⟩, rfl⟩
      · rintro ⟨i, τ⟩ q hi
        show Tw _ _ _ _ ([q 0, some (.ptr σ.length 0), q 2, q 3, q 4, q 5, q 6, q 7, q 8, q 9, q 10, q 11, q 12, q 13, q 14, q 15, q 16, q 17, q 18, q 19, some (rowTV portC c.ports), some (.int .i64 c.ports.l.length), some (.int .i64 i), q 23, q 24, q 25, q 26, q 27, q 28, q 29, q 30, q 31, q 32, q 33, q 34, q 35, q 36, q 37, q 38, q 39, q 40, q 41, q 42, q 43, q 44, q 45, q 46, q 47, q 48, q 49, q 50, q 51, q 52, q 53, q 54, q 55, q 56, q 57, q 58, q 59, q 60, q 61, q 62, q 63, q 64, q 65, q 66, q 67, q 68, q 69, q 70, q 71, q 72, q 73, q 74]) (σ ++ (.cells (cfgC c) :: τ))
        obtain ⟨hi, hs⟩ := hi
        have FK := zdum; have FD := zdum; have FL := zdum
        refine walk ?_
        (repeat' first | exact Lv.nil | apply Lv.cons) <;> (intros; clear FL FD FK)
        · refine ⟨(i + 1, τ ++ [_]), ?_, ⟨rfl, rfl, rfl, rfl, trivial⟩, ⟨?_, fun k hk => ?_⟩, rfl⟩
          · dsimp only; omega
          · dsimp only; omega
          · dsimp only at hk
            rcases Nat.lt_or_eq_of_le (Nat.le_of_lt_succ hk) with hk | rfl
            · exact hs k hk
            · omega
        · obtain ⟨k, hk, hk2⟩ := hx
          have := hs k (by omega)
          exact absurd hk2 (by omega)
    · have hl : ∀ p ∈ c.ports.l, p.id ≤ 4294967295 := fun p hp => by
        obtain ⟨k, hk, rfl⟩ := mem_nth hp
        exact Decidable.byContradiction fun q => hx ⟨k, hk, by omega⟩
      have hv : encI c = (sealL (imgL c), 0) := by unfold encI; rw [if_neg (by omega), if_neg hx]
      rw [hv]
      have fp := hm.partF
      have fw := hm.winF h
      have fl := hm.linkF h
      have fo := hm.portF h hl
      have hlen := imgL_len h
      have hh := hm.hosts
      have hM := hm.major
      have hlp := h.parts
      have hlw := h.wins
      have hlv := h.vls
      refine pure_of [] [.tmp 2, .tmp 3] Try.func32 (by kernel_rfl) rfl (by kernel_rfl) fun X hR hN => ?_
      show Tw _ _ _ _ ([some _] ++ List.replicate 74 none) _
      simp only [List.replicate, List.cons_append, List.nil_append]
      have FK := zdum; have FD := zdum; have FL := zdum; have cA := @hck
      refine walk ?_
      (repeat' first | exact Lv.nil | apply Lv.cons) <;> (intros; clear cA FL FD FK)
      refine T_each (α := Nat × TS) (fun (i, τ) => [none, some (some (.ptr σ.length 0)), none, none, none, none, none, none, none, none, none, none, none, none, none, none, none, none, none, none, some (some (rowTV portC c.ports)), some (some (.int .i64 c.ports.l.length)), some (some (.int .i64 i)), none, none, none, none, none, none, none, none, none, none, none, none, none, none, none, none, none, none, none, none, none, none, none, none, none, none, none, none, none, none, none, none, none, none, none, none, none, none, none, none, none, none, none, none, none, none, none, none, none, none, none, none]) (fun (i, τ) => i ≤ c.ports.l.length) (fun (i, τ) => c.ports.l.length - i) (fun (i, τ) => σ ++ (.cells (cfgC c) :: τ)) ?_ ?_
      · exact ⟨(0, _), ⟨rfl, rfl, rfl, rfl, trivial⟩, Nat.zero_le _, rfl⟩
      · rintro ⟨i, τ⟩ q hi
        show Tw _ _ _ _ ([q 0, some (.ptr σ.length 0), q 2, q 3, q 4, q 5, q 6, q 7, q 8, q 9, q 10, q 11, q 12, q 13, q 14, q 15, q 16, q 17, q 18, q 19, some (rowTV portC c.ports), some (.int .i64 c.ports.l.length), some (.int .i64 i), q 23, q 24, q 25, q 26, q 27, q 28, q 29, q 30, q 31, q 32, q 33, q 34, q 35, q 36, q 37, q 38, q 39, q 40, q 41, q 42, q 43, q 44, q 45, q 46, q 47, q 48, q 49, q 50, q 51, q 52, q 53, q 54, q 55, q 56, q 57, q 58, q 59, q 60, q 61, q 62, q 63, q 64, q 65, q 66, q 67, q 68, q 69, q 70, q 71, q 72, q 73, q 74]) (σ ++ (.cells (cfgC c) :: τ))
        rcases Nat.lt_or_ge i c.ports.l.length with hlt | hge
        · have hq := hl _ (nth_mem hlt)
          have FK := zdum; have FD := zdum; have FL := zdum
          refine walk ?_
          (repeat' first | exact Lv.nil | apply Lv.cons) <;> (intros; clear FL FD FK)
          refine ⟨(i + 1, τ ++ [_]), ?_, ⟨rfl, rfl, rfl, rfl, trivial⟩, ?_, rfl⟩ <;> (try dsimp only) <;> omega
        · obtain rfl : i = c.ports.l.length := by omega
          obtain ⟨l, el⟩ : ∃ l, l = σ.length + (τ.length + 1) := ⟨_, rfl⟩
          obtain ⟨σ2, e2⟩ : ∃ x, x = σ ++ (.cells (cfgC c) :: (τ ++ [.cells (wC (σ.length + (τ.length + 3)) [65, 70, 68, 88] false), .cells [.ptr l 0], .right 4 1])) := ⟨_, rfl⟩
          have hsl2 : σ2[l]? = some (.cells (wC (σ.length + (τ.length + 3)) [65, 70, 68, 88] false)) := by rw [e2, el]; simp (disch := omega) only [go_sem]
          have hst2 : σ2[σ.length + (τ.length + 3)]? = some (.right 4 1) := by rw [e2]; simp (disch := omega) only [go_sem]
          have hsp2 : σ2[σ.length + (τ.length + 2)]? = some (.cells [.ptr l 0]) := by rw [e2]; simp (disch := omega) only [go_sem]
          have hsc2 : σ2[σ.length]? = some (.cells (cfgC c)) := by rw [e2]; simp (disch := omega) only [go_sem]
          obtain ⟨b0, d0⟩ : ∃ b : List UInt8, b = [65, 70, 68, 88] := ⟨_, rfl⟩
          have htx : TDoes Try.prog 85 [.ptr (σ.length + (τ.length + 1)) 0, .str ⟨#[65, 70, 68, 88]⟩] (σ ++ (.cells (cfgC c) :: (τ ++ [.cells [.nils, .bool false], .cells [.ptr (σ.length + (τ.length + 1)) 0]]))) (.tup []) (wAt σ2 l (σ.length + (τ.length + 3)) b0) := by
            rw [d0]
            have := text_walk0 (σ := σ ++ (.cells (cfgC c) :: (τ ++ [.cells [.nils, .bool false], .cells [.ptr (σ.length + (τ.length + 1)) 0]]))) (l := σ.length + (τ.length + 1)) (by simp (disch := omega) only [go_sem]) [65, 70, 68, 88] (by decide) (by decide)
            rw [wAt_same hsl2 hst2, e2, el]
            simp (disch := omega) only [go_sem, List.length_cons, List.length_append, List.length_nil, List.append_assoc, List.cons_append, List.nil_append, show σ.length + (τ.length + (0 + 1 + 1) + 1) = σ.length + (τ.length + 3) from rfl] at this
            exact this
          have hw := WB.of hsl2 hst2
          have hgp : ∀ b, (wAt σ2 l (σ.length + (τ.length + 3)) b)[σ.length + (τ.length + 2)]? = some (.cells [.ptr l 0]) := fun b => by rw [wAt_p (by omega) (by omega)]; exact hsp2
          have hgc : ∀ b, (wAt σ2 l (σ.length + (τ.length + 3)) b)[σ.length]? = some (.cells (cfgC c)) := fun b => by rw [wAt_p (by omega) (by omega)]; exact hsc2
          generalize ht3 : σ.length + (τ.length + 3) = t at *
          obtain ⟨b1, d1⟩ : ∃ b, b = b0 ++ be 2 1 := ⟨_, rfl⟩
          obtain ⟨b2, d2⟩ : ∃ b, b = b1 ++ be 2 c.hosts := ⟨_, rfl⟩
          obtain ⟨b3, d3⟩ : ∃ b, b = b2 ++ intsB c.parts.l := ⟨_, rfl⟩
          obtain ⟨b4, d4⟩ : ∃ b, b = b3 ++ be 4 c.major := ⟨_, rfl⟩
          obtain ⟨b5, d5⟩ : ∃ b, b = b4 ++ (be 2 c.wins.l.length ++ c.wins.l.flatMap winB) := ⟨_, rfl⟩
          obtain ⟨b6, d6⟩ : ∃ b, b = b5 ++ (be 2 c.vls.l.length ++ c.vls.l.flatMap linkB) := ⟨_, rfl⟩
          obtain ⟨b7, d7⟩ : ∃ b, b = b6 ++ (be 2 c.ports.l.length ++ c.ports.l.flatMap portB) := ⟨_, rfl⟩
          have dI : imgL c = b7 := by rw [d7, d6, d5, d4, d3, d2, d1, d0]; simp only [imgL, List.append_assoc]
          have g7 : b7.length ≤ 90000 := by rw [← dI]; exact hlen
          have g6 : b6.length ≤ 90000 := by rw [d7, List.length_append] at g7; omega
          have g5 : b5.length ≤ 90000 := by rw [d6, List.length_append] at g6; omega
          have g4 : b4.length ≤ 90000 := by rw [d5, List.length_append] at g5; omega
          have g3 : b3.length ≤ 90000 := by rw [d4, List.length_append] at g4; omega
          have g2 : b2.length ≤ 90000 := by rw [d3, List.length_append] at g3; omega
          have g1 : b1.length ≤ 90000 := by rw [d2, List.length_append] at g2; omega
          have g0 : b0.length ≤ 90000 := by rw [d1, List.length_append] at g1; omega
          have a1 := u16_to hw (n := 1) (by omega) (by omega) d1 []
          have a2 := u16_to hw (n := c.hosts) (by omega) (by omega) d2 []
          have a3 := layI_to hw [] c.parts (by omega) fp (by omega) d3
          have a4 := u32_to hw (n := c.major) (by omega) (by omega) d4 []
          have a5 := layW_to hw hsp2 [] (by omega) (by omega) c.wins (by omega) fw (by omega) d5
          have a6 := layV_to hw hsp2 [] (by omega) (by omega) c.vls (by omega) fl (by omega) d6
          have a7 := layP_to hw hsp2 [] (by omega) (by omega) c.ports (by omega) fo (by omega) d7
          have a8 := bytes_at (bs := b7) hw []
          simp only [List.append_nil] at a1 a2 a3 a4 a5 a6 a7 a8
          have hsl : ∀ σ, TPure Try.prog 100 [.str (B b7)] σ (.str (B (sealL (imgL c)))) := fun σ => by rw [← dI]; exact seal_pure (imgL c) σ (by omega)
          clear d1 d2 d3 d4 d5 d6 d7 dI
          have hend : wAt σ2 l t b7 = σ ++ (.cells (cfgC c) :: (τ ++ [.cells (wC t b7 false), .cells [.ptr l 0], .right b7.length 1])) := by
            rw [e2, ← ht3, el]
            unfold wAt wSet
            simp (disch := omega) only [go_sem]
          rw [hend] at a7 a8
          have FK := And.intro @hgp (@hgc); have FD := zdum; have FL := zdum; have dA := @htx; have dB := @a1; have dC := @a2; have dD := @a3; have dE := @a4; have dF := @a5; have dG := @a6; have dH := @a7; have cA := @a8; have cB := @hsl
          refine walk ?_
          (repeat' first | exact Lv.nil | apply Lv.cons) <;> (intros; clear cB cA dH dG dF dE dD dC dB dA FL FD FK)
  · have hv : encI c = ([], (checkS c).2.2) := by unfold encI; rw [if_pos hb]
    rw [hv]
    refine pure_of [] [.tmp 2, .tmp 3] Try.func32 (by kernel_rfl) rfl (by kernel_rfl) fun X hR hN => ?_
    show Tw _ _ _ _ ([some _] ++ List.replicate 74 none) _
    simp only [List.replicate, List.cons_append, List.nil_append]
    have FK := @hb; have FD := zdum; have FL := zdum; have cA := @hck
    refine walk ?_
    (repeat' first | exact Lv.nil | apply Lv.cons) <;> (intros; clear cA FL FD FK)
end Go.Proofs.Ytgkcackpffimmaa
