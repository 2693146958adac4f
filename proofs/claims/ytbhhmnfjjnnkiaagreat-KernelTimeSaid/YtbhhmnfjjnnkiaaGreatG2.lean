/- Plain laws of networks that may be: what is kept when a network becomes smaller. -/
import Derived.Test.YtbhhmnfjjnnkiaaGreatE0
import Derived.Test.YtbhhmnfjjnnkiaaGreatF3
set_option linter.unusedVariables false
set_option linter.unusedSimpArgs false
set_option maxRecDepth 10000
namespace Go.Proofs.YtbhhmnfjjnnkiaaGreat
open Go.TM

/-- A network that may be. -/
structure OkC (c : Cfg) : Prop where
  hosts : ¬ (c.hosts < 1 ∨ c.hosts > 64)
  parts : ∀ k, k < c.parts.l.length → partS c k = 0
  major : ¬ (c.major < 1 ∨ c.major > 1073741824)
  wins : ∀ k, k < c.wins.l.length → winS c k = 0
  links : ∀ k, k < c.vls.l.length → linkS c k = 0
  ports : ∀ k, k < c.ports.l.length → portS c k = 0
  late : ∀ k, k < c.hosts.toNat → lateS c k = 0

theorem OkC.check {c : Cfg} (h : OkC c) : checkS c = (0, 0, 0) := check_ok h.hosts h.parts h.major h.wins h.links h.ports h.late

theorem okC_of {c : Cfg} (h : (checkS c).2.2 = 0) : OkC c := by
  by_cases h1 : c.hosts < 1 ∨ c.hosts > 64
  · rw [check_hosts h1] at h; cases h
  cases hA : firstBad c.parts.l.length (partS c) with
  | some x =>
    obtain ⟨i, e⟩ := x
    have q := firstBad_some.1 hA
    rw [check_parts h1 q.1 q.2.2.2 (by rw [q.2.1]; exact q.2.2.1)] at h; cases h
  | none =>
    have hp := firstBad_none.1 hA
    by_cases h2 : c.major < 1 ∨ c.major > 1073741824
    · rw [check_frame h1 hp h2] at h; cases h
    cases hB : firstBad c.wins.l.length (winS c) with
    | some x =>
      obtain ⟨i, e⟩ := x
      have q := firstBad_some.1 hB
      rw [check_wins h1 hp h2 q.1 q.2.2.2 (by rw [q.2.1]; exact q.2.2.1)] at h
      exact absurd (q.2.1.symm.trans h) q.2.2.1
    | none =>
      have hw := firstBad_none.1 hB
      cases hC : firstBad c.vls.l.length (linkS c) with
      | some x =>
        obtain ⟨i, e⟩ := x
        have q := firstBad_some.1 hC
        rw [check_links h1 hp h2 hw q.1 q.2.2.2 (by rw [q.2.1]; exact q.2.2.1)] at h
        exact absurd (q.2.1.symm.trans h) q.2.2.1
      | none =>
        have hl := firstBad_none.1 hC
        cases hD : firstBad c.ports.l.length (portS c) with
        | some x =>
          obtain ⟨i, e⟩ := x
          have q := firstBad_some.1 hD
          rw [check_ports h1 hp h2 hw hl q.1 q.2.2.2 (by rw [q.2.1]; exact q.2.2.1)] at h
          exact absurd (q.2.1.symm.trans h) q.2.2.1
        | none =>
          have hq := firstBad_none.1 hD
          cases hE : firstBad c.hosts.toNat (lateS c) with
          | some x =>
            obtain ⟨i, e⟩ := x
            have q := firstBad_some.1 hE
            rw [check_late h1 hp h2 hw hl hq q.1 q.2.2.2 (by rw [q.2.1]; exact q.2.2.1)] at h; cases h
          | none => exact ⟨h1, hp, h2, hw, hl, hq, firstBad_none.1 hE⟩

/-- What is wrong with a window hangs on the partitions, the frame and the windows up to it alone. -/
theorem endOf_congr {c d : Cfg} (hp : d.parts = c.parts) {h : Int} : ∀ {i : Nat}, (∀ k, k < i → nth d.wins.l k = nth c.wins.l k) → endOf d h i = endOf c h i
  | 0, _ => rfl
  | i + 1, hw => by
    rw [endOf, endOf, hp, hw i (by omega), endOf_congr hp fun k hk => hw k (by omega)]
theorem ite_iff {α : Type} {p q : Prop} [Decidable p] [Decidable q] (h : p ↔ q) (a b : α) : (if p then a else b) = if q then a else b := by
  by_cases hp : p
  · rw [if_pos hp, if_pos (h.1 hp)]
  · rw [if_neg hp, if_neg fun hq => hp (h.2 hq)]
theorem winS_congr {c d : Cfg} (hp : d.parts = c.parts) (hm : d.major = c.major) {i : Nat} (hw : ∀ k, k < i + 1 → nth d.wins.l k = nth c.wins.l k) : winS d i = winS c i := by
  have he : ∀ h, endOf d h i = endOf c h i := fun h => endOf_congr hp fun k hk => hw k (by omega)
  unfold winS
  simp only [IsPart, hp, hm, hw i (by omega), he]
open Classical in
theorem linkS_congr {c d : Cfg} (hh : d.hosts = c.hosts) {i : Nat} (hv : ∀ k, k < i + 1 → nth d.vls.l k = nth c.vls.l k) : linkS d i = linkS c i := by
  have h1 : 0 < i → nth d.vls.l (i - 1) = nth c.vls.l (i - 1) := fun h => hv _ (by omega)
  have h4 : (¬ Rises (nth d.vls.l i).to.l) ↔ ¬ Rises (nth c.vls.l i).to.l := by rw [hv i (by omega)]
  rcases Nat.eq_zero_or_pos i with h0 | h0
  · subst h0
    unfold linkS
    simp only [hv 0 (by omega), LinkOff, IsHost, hh, Nat.lt_irrefl, false_and, if_false]
  · unfold linkS
    rw [hv i (by omega), h1 h0]
    simp only [LinkOff, IsHost, hh]
open Classical in
theorem portS_congr {c d : Cfg} (hp : d.parts = c.parts) (hv : d.vls = c.vls) {i : Nat} (hq : ∀ k, k < i + 1 → nth d.ports.l k = nth c.ports.l k) : portS d i = portS c i := by
  have h1 : 0 < i → nth d.ports.l (i - 1) = nth c.ports.l (i - 1) := fun h => hq _ (by omega)
  have h2 : (∃ k, k < i ∧ (nth d.ports.l i).place (nth d.ports.l k)) ↔ ∃ k, k < i ∧ (nth c.ports.l i).place (nth c.ports.l k) := by
    constructor
    · rintro ⟨k, hk, h⟩; rw [hq i (by omega), hq k (by omega)] at h; exact ⟨k, hk, h⟩
    · rintro ⟨k, hk, h⟩; rw [← hq i (by omega), ← hq k (by omega)] at h; exact ⟨k, hk, h⟩
  have h3 : (0 < i ∧ (nth d.ports.l (i - 1)).id ≥ (nth d.ports.l i).id) ↔ (0 < i ∧ (nth c.ports.l (i - 1)).id ≥ (nth c.ports.l i).id) := by
    constructor
    · rintro ⟨h, h'⟩; rw [h1 h, hq i (by omega)] at h'; exact ⟨h, h'⟩
    · rintro ⟨h, h'⟩; rw [← h1 h, ← hq i (by omega)] at h'; exact ⟨h, h'⟩
  unfold portS
  simp only [ite_iff h3, ite_iff h2]
  simp only [hv, hp, hq i (by omega), PortOff, IsPart]
theorem partS_congr {c d : Cfg} (hh : d.hosts = c.hosts) (hp : d.parts = c.parts) (i : Nat) : partS d i = partS c i := by
  unfold partS
  simp only [IsHost, hh, hp]

theorem jitL_le (h : Int) : ∀ (l m : List Link), (∀ v ∈ m, 0 ≤ v.smax) → jitL h l ≤ jitL h (l ++ m) := by
  intro l m hm
  rw [jitL_append]
  have : 0 ≤ jitL h m := by
    induction m with
    | nil => exact Int.le_refl _
    | cons v m ih =>
      have h1 := hm v (List.mem_cons_self ..)
      have h2 := ih fun v hv => hm v (List.mem_cons_of_mem _ hv)
      simp only [jitL]
      split <;> omega
  omega

theorem nth_cut {α : Type} [Inhabited α] {r : Row α} {n k : Nat} (h : k < n) : nth (r.cut 0 n).l k = nth r.l k := by
  simp only [Row.cut, List.drop_zero]
  exact nth_take h
theorem cut_len {α : Type} {r : Row α} {n : Nat} (h : n ≤ r.l.length) : (r.cut 0 n).l.length = n := by
  simp only [Row.cut, List.drop_zero, List.length_take]
  omega

theorem less_ports {c : Cfg} (h : OkC c) {n : Nat} (hn : n ≤ c.ports.l.length) : OkC { c with ports := c.ports.cut 0 n } where
  hosts := h.hosts
  parts k hk := (partS_congr (c := c) (d := { c with ports := c.ports.cut 0 n }) rfl rfl k).trans (h.parts k hk)
  major := h.major
  wins k hk := (winS_congr (c := c) (d := { c with ports := c.ports.cut 0 n }) rfl rfl fun _ _ => rfl).trans (h.wins k hk)
  links k hk := (linkS_congr (c := c) (d := { c with ports := c.ports.cut 0 n }) rfl fun _ _ => rfl).trans (h.links k hk)
  ports k hk := by
    have hk' : k < n := by simpa only [cut_len hn] using hk
    exact (portS_congr (c := c) (d := { c with ports := c.ports.cut 0 n }) rfl rfl fun j hj => nth_cut (by omega)).trans (h.ports k (by omega))
  late k hk := h.late k hk
theorem less_wins {c : Cfg} (h : OkC c) {n : Nat} (hn : n ≤ c.wins.l.length) : OkC { c with wins := c.wins.cut 0 n } where
  hosts := h.hosts
  parts k hk := (partS_congr (c := c) (d := { c with wins := c.wins.cut 0 n }) rfl rfl k).trans (h.parts k hk)
  major := h.major
  wins k hk := by
    have hk' : k < n := by simpa only [cut_len hn] using hk
    exact (winS_congr (c := c) (d := { c with wins := c.wins.cut 0 n }) rfl rfl fun j hj => nth_cut (by omega)).trans (h.wins k (by omega))
  links k hk := (linkS_congr (c := c) (d := { c with wins := c.wins.cut 0 n }) rfl fun _ _ => rfl).trans (h.links k hk)
  ports k hk := (portS_congr (c := c) (d := { c with wins := c.wins.cut 0 n }) rfl rfl fun _ _ => rfl).trans (h.ports k hk)
  late k hk := h.late k hk
theorem less_links {c : Cfg} (h : OkC c) {n : Nat} (hn : n ≤ c.vls.l.length) : OkC { c with vls := c.vls.cut 0 n, ports := Row.none } where
  hosts := h.hosts
  parts k hk := (partS_congr (c := c) (d := { c with vls := c.vls.cut 0 n, ports := Row.none }) rfl rfl k).trans (h.parts k hk)
  major := h.major
  wins k hk := (winS_congr (c := c) (d := { c with vls := c.vls.cut 0 n, ports := Row.none }) rfl rfl fun _ _ => rfl).trans (h.wins k hk)
  links k hk := by
    have hk' : k < n := by simpa only [cut_len hn] using hk
    exact (linkS_congr (c := c) (d := { c with vls := c.vls.cut 0 n, ports := Row.none }) rfl fun j hj => nth_cut (by omega)).trans (h.links k (by omega))
  ports k hk := by simp [Row.none] at hk
  late k hk := by
    have h0 := h.late k hk
    unfold lateS jitS at h0 ⊢
    have hs := smax_of h.links
    have h1 := jitL_le (k : Int) (c.vls.l.take n) (c.vls.l.drop n) fun v hv => (hs v (List.mem_of_mem_drop hv)).1
    rw [List.take_append_drop] at h1
    have h2 : ((c.vls.cut 0 n).l) = c.vls.l.take n := by simp [Row.cut]
    simp only [h2]
    split at h0
    · cases h0
    · rw [if_neg (by omega)]

/-- Windows of one host that may be are one behind the other. -/
theorem wins_apart {c : Cfg} (h : Int) : ∀ i, (∀ k, k < i → winS c k = 0) → ∀ k, k < i → nth c.parts.l (nth c.wins.l k).part.toNat = h → (nth c.wins.l k).begin_ + (nth c.wins.l k).long ≤ endOf c h i
  | 0, _, k, hk, _ => by omega
  | i + 1, hz, k, hk, he => by
    have ih := wins_apart h i (fun k hk => hz k (by omega))
    obtain ⟨_, _, _, w4, _, _, w7⟩ := winS_zero (hz i (by omega))
    rw [endOf]
    rcases Nat.lt_or_ge k i with h1 | h1
    · have := ih k h1 he
      split
      · rename_i e
        rw [e] at w7
        omega
      · exact this
    · obtain rfl : k = i := by omega
      rw [if_pos he]
      exact Int.le_refl _
end Go.Proofs.YtbhhmnfjjnnkiaaGreat
