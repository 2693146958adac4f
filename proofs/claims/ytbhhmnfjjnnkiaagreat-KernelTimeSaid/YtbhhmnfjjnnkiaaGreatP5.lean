/- What clearing a room of the program computes. -/
import Derived.Test.YtbhhmnfjjnnkiaaGreatP4
set_option linter.unusedVariables false
set_option linter.unusedSimpArgs false
set_option maxRecDepth 10000
set_option maxHeartbeats 4000000
namespace Go.Proofs.YtbhhmnfjjnnkiaaGreat
open Go.TM

/-- The boxes of a partition that were seen are cleared. -/
def clrS (part : Int) (seen : List Nat) (bs : List Bx) : List Bx := (List.range bs.length).map fun k => if k ∈ seen ∧ (nth bs k).p.part = part then clearB (nth bs k) else nth bs k
theorem nth_map {α β : Type} [Inhabited α] [Inhabited β] (f : α → β) {l : List α} {k : Nat} (h : k < l.length) : nth (l.map f) k = f (nth l k) := by
  rw [nth_eq (by simpa using h), nth_eq h, List.getElem_map]
theorem clrS_len (part : Int) (seen : List Nat) (bs : List Bx) : (clrS part seen bs).length = bs.length := by simp [clrS]
theorem nth_range {α : Type} [Inhabited α] (f : Nat → α) {n k : Nat} (h : k < n) : nth ((List.range n).map f) k = f k := by
  rw [nth_eq (by simpa using h)]; simp
theorem clrS_nth {part : Int} {seen : List Nat} {bs : List Bx} {k : Nat} (h : k < bs.length) : nth (clrS part seen bs) k = if k ∈ seen ∧ (nth bs k).p.part = part then clearB (nth bs k) else nth bs k := nth_range _ h
theorem ext_nth {α : Type} [Inhabited α] {a b : List α} (hl : a.length = b.length) (h : ∀ k, k < a.length → nth a k = nth b k) : a = b := by
  apply List.ext_getElem hl
  intro i h1 h2
  rw [← nth_eq h1, ← nth_eq h2]
  exact h i h1
theorem clrS_nil (part : Int) (bs : List Bx) : clrS part [] bs = bs := by
  refine ext_nth (clrS_len _ _ _) fun k hk => ?_
  rw [clrS_len] at hk
  rw [clrS_nth hk, if_neg (by simp)]
theorem clrS_all {part : Int} {seen : List Nat} {bs : List Bx} (h : ∀ k, k < bs.length → k ∈ seen) : clrS part seen bs = clearR part bs := by
  refine ext_nth (by rw [clrS_len, clearR, List.length_map]) fun k hk => ?_
  rw [clrS_len] at hk
  rw [clrS_nth hk, clearR, nth_map _ hk]
  by_cases hp : (nth bs k).p.part = part
  · rw [if_pos ⟨h k hk, hp⟩, if_pos hp]
  · rw [if_neg (fun e => hp e.2), if_neg hp]
theorem clrS_p {part : Int} {seen : List Nat} {bs : List Bx} {k : Nat} (h : k < bs.length) : (nth (clrS part seen bs) k).p = (nth bs k).p := by
  rw [clrS_nth h]; split <;> rfl
theorem clrS_pts (part : Int) (seen : List Nat) (bs : List Bx) : pts (clrS part seen bs) = pts bs := by
  refine ext_nth (by simp [clrS]) fun k hk => ?_
  have hk' : k < bs.length := by simpa [clrS] using hk
  rw [pts, nth_map _ (by rw [clrS_len]; exact hk'), clrS_p hk', pts, nth_map _ hk']
theorem clrS_out {part : Int} {seen : List Nat} {bs : List Bx} {k : Nat} (hp : (nth bs k).p.part ≠ part) : clrS part (seen ++ [k]) bs = clrS part seen bs := by
  refine ext_nth (by rw [clrS_len, clrS_len]) fun j hj => ?_
  rw [clrS_len] at hj
  rw [clrS_nth hj, clrS_nth hj]
  by_cases e : j = k
  · subst e; rw [if_neg (fun e => hp e.2), if_neg (fun e => hp e.2)]
  · have : j ∈ seen ++ [k] ↔ j ∈ seen := by simp [e]
    simp only [this]
theorem clrS_in {part : Int} {seen : List Nat} {bs : List Bx} {k : Nat} (hk : k < bs.length) (hs : k ∉ seen) (hp : (nth bs k).p.part = part) : clrS part (seen ++ [k]) bs = (clrS part seen bs).set k (clearB (nth (clrS part seen bs) k)) := by
  refine ext_nth (by rw [clrS_len, List.length_set, clrS_len]) fun j hj => ?_
  rw [clrS_len] at hj
  rw [clrS_nth hj, nth_set (by rw [clrS_len]; exact hk)]
  by_cases e : j = k
  · subst e
    rw [if_pos ⟨by simp, hp⟩, if_pos rfl, clrS_nth hj, if_neg (fun e => hs e.1)]
  · rw [if_neg e, clrS_nth hj]
    have : j ∈ seen ++ [k] ↔ j ∈ seen := by simp [e]
    simp only [this]

theorem nodup_snoc {l : List Nat} {k : Nat} (h : l.Nodup) (hk : k ∉ l) : (l ++ [k]).Nodup := by
  rw [List.nodup_append]
  exact ⟨h, by simp, fun a ha b hb => by simp at hb; subst hb; rintro rfl; exact hk ha⟩
theorem nodup_le : ∀ (n : Nat) (l : List Nat), l.Nodup → (∀ j ∈ l, j < n) → l.length ≤ n
  | 0, l, _, hl => by
    cases l with
    | nil => exact Nat.le_refl _
    | cons x r => exact absurd (hl x (by simp)) (by omega)
  | n + 1, l, h, hl => by
    have h1 := nodup_le n (l.erase n) (h.erase n) fun j hj => by
      obtain ⟨h2, h3⟩ := h.mem_erase_iff.1 hj
      have := hl j h3
      omega
    rw [List.length_erase] at h1
    split at h1 <;> omega
theorem nodup_lt {l : List Nat} {n k : Nat} (h : l.Nodup) (hl : ∀ j ∈ l, j < n) (hk : k < n) (hn : k ∉ l) : l.length < n := by
  have := nodup_le n (k :: l) (List.nodup_cons.2 ⟨hn, h⟩) fun j hj => by
    rcases List.mem_cons.1 hj with rfl | hj
    · exact hk
    · exact hl j hj
  simp at this
  omega

theorem ents_left {ps : List Port} {locs : List Nat} {seen : List Nat} : tleft (mEnt kI placeTV (entsP ps locs)) seen.toArray = ((List.range ps.length).filter fun k => !seen.contains k).map fun k => ⟨kI (nth ps k).id, placeTV (nth ps k, nth locs k), k⟩ := by
  unfold tleft mEnt entsP
  rw [List.map_map, List.filter_map]
  congr 1
  apply List.filter_congr
  intro k _
  simp

theorem range_is {n k : Nat} (h : k < n) : (List.range n).find? (fun j => j == k) = some k := by
  rw [List.find?_eq_some_iff_getElem]
  refine ⟨by simp, k, by simpa using h, by simp, fun j hj => ?_⟩
  simp
  omega
theorem ents_find {ps : List Port} {locs : List Nat} {k : Nat} (hk : k < ps.length) : (mEnt kI placeTV (entsP ps locs)).find? (fun x => x.born == k) = some ⟨kI (nth ps k).id, placeTV (nth ps k, nth locs k), k⟩ := by
  unfold mEnt entsP
  rw [List.map_map, range_find]
  exact (congrArg (Option.map _) (range_is hk)).trans rfl

section
variable {σ : TS} {lab : Nat → Nat} {c r lm : Nat} {locs : List Nat} {bs : List Bx} (h : RoomP σ lab c r lm locs bs)
include h
theorem rangePl (ρ : TS) : trange (mkTab Tryz.prog) (σ ++ ρ) 144 (.map lm) = some (.ptr (σ ++ ρ).length 0, (σ ++ ρ) ++ [.iter (some lm) bs.length #[] bs.length]) := by
  unfold trange
  simp only [tab144]
  rw [get_old (lt_of_get h.hm), h.hm]

theorem clear_walk (part : Int) : TCalls Tryz.prog 68 [.ptr r 0, .int .i64 part] σ fun v σ' => v = .tup [] ∧
    ∃ lab', RoomP σ' lab' c r lm locs (clearR part bs) ∧ Grow σ lab σ' lab' (fun n => c < n ∧ n ≤ c + bs.length) := by
  have hr := h.hr
  have hrl := lt_of_get h.hr
  have hrng := rangePl h []
  rw [List.append_nil] at hrng
  refine calls_of [] [] Tryz.func68 (by kernel_rfl) rfl (by kernel_rfl) fun X hR hN => ?_
  show Tw _ _ _ _ ([some _, some _] ++ List.replicate 23 none) _
  simp only [List.replicate, List.cons_append, List.nil_append]
  have FK := @hr; have FD := @hrng; have FL := zdum
  refine walk ?_
  (repeat' first | exact Lv.nil | apply Lv.cons) <;> (intros; clear FL FD FK)
  refine T_each (α := TS × (Nat → Nat) × List Nat) (fun (τ, lab', seen) => [none, some (some (.int .i64 part)), none, none, none, none, none, none, none, none, none, none, some (some (.ptr σ.length 0)), none, none, none, none, none, none, none, none, none, none, none, none]) (fun (τ, lab', seen) => RoomP τ lab' c r lm locs (clrS part seen bs) ∧ τ[σ.length]? = some (.iter (some lm) bs.length seen.toArray bs.length) ∧ lab' σ.length = c + bs.length + 1 ∧ Grow σ lab τ lab' (fun n => c < n ∧ n ≤ c + bs.length) ∧ seen.Nodup ∧ (∀ k ∈ seen, k < bs.length)) (fun (τ, lab', seen) => bs.length - seen.length) (fun (τ, lab', seen) => τ) ?_ ?_
  · refine ⟨((σ ++ [.iter (some lm) bs.length #[] bs.length]), labX lab σ.length (c + bs.length + 1), []), ⟨rfl, rfl, trivial⟩, ?_, rfl⟩
    exact ⟨by rw [clrS_nil]; exact h.grow (Grow.tail _ (fun _ => False) _) (fun _ _ _ e => e), by simp, labX_new (Nat.le_refl _), Grow.tail _ _ _, List.nodup_nil, by simp⟩
  · rintro ⟨τ, lab', seen⟩ q ⟨hR, hI, hlI, hG, hnd, hlt⟩
    show Tw _ _ _ _ ([q 0, some (.int .i64 part), q 2, q 3, q 4, q 5, q 6, q 7, q 8, q 9, q 10, q 11, some (.ptr σ.length 0), q 13, q 14, q 15, q 16, q 17, q 18, q 19, q 20, q 21, q 22, q 23, q 24]) (τ)
    have hmL : τ[lm]? = some (.map (mEnt kI placeTV (entsP (pts bs) locs)) bs.length) := by have := hR.hm; rwa [clrS_pts, clrS_len] at this
    refine T_reg_seq fun K hK => ?_
    simp only [List.toList_toArray, List.append_eq, List.cons_append, List.nil_append]
    refine WL_do fun Cw cw => ?_
    have hpl : (pts bs).length = bs.length := List.length_map _
    refine O_nextM rfl hI hmL ?_ (Nat.le_refl _) ?_ ?_
    · rw [List.all_eq_true]
      intro e he
      obtain ⟨x, hx, rfl⟩ := List.mem_map.1 he
      obtain ⟨k, hk, rfl⟩ := List.mem_map.1 hx
      have := List.mem_range.1 hk
      exact decide_eq_true (by show k < _; omega)
    · intro hleft
      rw [ents_left] at hleft
      have hall : ∀ k, k < bs.length → k ∈ seen := fun k hk => by
        have h1 := List.map_eq_nil_iff.1 hleft
        have h2 := List.filter_eq_nil_iff.1 h1 k (List.mem_range.2 (by omega))
        simpa using h2
      (with_reducible apply cw); (focus ((try simp only [tput, List.set_cons_zero, List.set_cons_succ]); exact rfl)); clear cw Cw
      have FK := zdum; have FD := zdum; have FL := zdum
      refine walk ?_
      (repeat' first | exact Lv.nil | apply Lv.cons) <;> (intros; clear FL FD FK)
      all_goals exact ⟨by first | rfl | trivial, lab', by rw [← clrS_all hall]; exact hR, hG⟩
    · intro e he
      rw [ents_left] at he
      obtain ⟨k, hk, rfl⟩ := List.mem_map.1 he
      rw [List.mem_filter] at hk
      obtain ⟨hk1, hk2⟩ := hk
      have hk : k < bs.length := by have := List.mem_range.1 hk1; omega
      have hks : k ∉ seen := by simpa using hk2
      have hp : nth (pts bs) k = (nth bs k).p := nth_map _ hk
      have hkc : k < (clrS part seen bs).length := by rw [clrS_len]; exact hk
      have hL := lt_of_get hI
      have hpush : seen.toArray.push k = (seen ++ [k]).toArray := by simp
      rw [hp]
      have hG1 : Grow τ lab' (τ.set σ.length (.iter (some lm) bs.length (seen.toArray.push k) bs.length)) (labX lab' τ.length 0) (· = c + bs.length + 1) := by
        have := Grow.set (σ := τ) (lab := lab') (l := σ.length) (o := .iter (some lm) bs.length (seen.toArray.push k) bs.length) [] (C := (· = c + bs.length + 1)) hlI 0
        rwa [List.append_nil] at this
      have hR1 := hR.grow hG1 (fun n h1 h2 h3 => by rw [clrS_len] at h2; omega)
      have hI1 : (τ.set σ.length (.iter (some lm) bs.length (seen.toArray.push k) bs.length))[σ.length]? = some (.iter (some lm) bs.length (seen.toArray.push k) bs.length) := List.getElem?_set_self hL
      have hl1 : labX lab' τ.length 0 σ.length = c + bs.length + 1 := (labX_old hL).trans hlI
      have hm1 : (τ.set σ.length (.iter (some lm) bs.length (seen.toArray.push k) bs.length))[lm]? = some (.map (mEnt kI placeTV (entsP (pts bs) locs)) bs.length) := by have := hR1.hm; rwa [clrS_pts, clrS_len] at this
      have hG2 : Grow σ lab (τ.set σ.length (.iter (some lm) bs.length (seen.toArray.push k) bs.length)) (labX lab' τ.length 0) (fun n => c < n ∧ n ≤ c + bs.length) :=
        ⟨by simp; exact hG.len, fun i hi => (labX_old (Nat.lt_of_lt_of_le hi hG.len)).trans (hG.same i hi), fun i hi hc => by
          rw [List.getElem?_set_ne (by omega)]; exact hG.keep i hi hc⟩
      generalize τ.set σ.length (.iter (some lm) bs.length (seen.toArray.push k) bs.length) = τ1 at hR1 hI1 hm1 hG2 ⊢
      generalize labX lab' τ.length 0 = lab1 at hR1 hl1 hG2
      rw [hpush] at hI1
      have hentry : ∀ ρ, tentry (τ1 ++ ρ) (.ptr σ.length 0) = some (.tup [kI (nth bs k).p.id, placeTV ((nth bs k).p, nth locs k)]) := fun ρ => by
        unfold tentry
        simp only
        rw [get_old (lt_of_get hI1), hI1]
        simp only
        rw [get_old (lt_of_get hm1), hm1]
        have hb : (seen ++ [k]).toArray.back? = some k := by simp
        have hf := ents_find (ps := pts bs) (locs := locs) (k := k) (by omega)
        rw [hp] at hf
        rw [hb]
        simp only [hf, if_true]
      have hen0 := hentry []
      rw [List.append_nil] at hen0
      have hLk : nth locs k < τ1.length := by have := box_lt hR1 hkc; exact this
      (with_reducible apply cw); (focus ((try simp only [tput, List.set_cons_zero, List.set_cons_succ]); exact rfl)); clear cw Cw
      have FK := zdum; have FD := @hen0; have FL := zdum
      refine walk ?_
      (repeat' first | exact Lv.nil | apply Lv.cons) <;> (intros; clear FL FD FK)
      · have hpart : (nth bs k).p.part = part := by assumption
        have hbk : nth (clrS part seen bs) k = nth bs k := by rw [clrS_nth hk, if_neg (fun e => hks e.1)]
        have hbx := fun ρ => (hR1.box k hkc).grow (Grow.tail (σ := τ1) (lab := lab1) ρ (fun _ => False) 0) (fun e => e)
        have hcl := fun ρ => boxclear_walk (hbx ρ)
        rw [hbk] at hcl
        have FK := zdum; have FD := zdum; have FL := zdum
        refine walk ?_
        (repeat' first | exact Lv.nil | apply Lv.cons) <;> (intros; clear FL FD FK)
        obtain ⟨m, hmt, o, hdo, hbo⟩ := hcl _
        refine WL_do fun Cw cw => ?_
        refine O_invoke rfl rfl (hmt) ?_
        refine hdo.mono ?_
        rintro v τ2 ⟨rfl, rfl⟩
        (with_reducible apply cw); (focus ((try simp only [tput, List.set_cons_zero, List.set_cons_succ]); exact rfl)); clear cw Cw
        rw [set_old hLk]
        have hmk := (hR1.box k hkc).1
        have hG3 := fun ρ => Grow.set (σ := τ1) (lab := lab1) (l := nth locs k) (o := o) ρ (C := (· = c + 1 + k)) hmk 0
        have hR2 := fun ρ => hR1.turn hkc (b := clearB (nth (clrS part seen bs) k)) rfl (hG3 ρ) (by
          rw [hbk]
          exact hbo _ _ (by rw [List.getElem?_append_left (by simpa using hLk)]; exact List.getElem?_set_self hLk) ((labX_old hLk).trans hmk)) (clearB_ok (hR1.ok _ (nth_mem hkc)))
        rw [← clrS_in hk hks hpart] at hR2
        have FK := zdum; have FD := zdum; have FL := zdum
        refine walk ?_
        (repeat' first | exact Lv.nil | apply Lv.cons) <;> (intros; clear FL FD FK)
        refine ⟨(_, labX lab1 τ1.length 0, seen ++ [k]), ?_, ⟨rfl, rfl, trivial⟩, ⟨hR2 _, (hG3 _).get hI1 (by rw [hl1]; omega), (labX_old (lt_of_get hI1)).trans hl1, hG2.trans ((hG3 _).mono fun n e => by have e : n = c + 1 + k := e; omega), ?_, ?_⟩, rfl⟩
        · dsimp only; rw [List.length_append, List.length_singleton]; have := nodup_lt hnd hlt hk hks; omega
        · exact nodup_snoc hnd hks
        · intro j hj; rcases List.mem_append.1 hj with hj | hj; exact hlt j hj; simp at hj; omega
      · have hpart : (nth bs k).p.part ≠ part := by assumption
        have hG3 := fun ρ => Grow.tail (σ := τ1) (lab := lab1) ρ (fun n => c < n ∧ n ≤ c + bs.length) 0
        have hR2 := fun ρ => hR1.grow (Grow.tail (σ := τ1) (lab := lab1) ρ (fun _ => False) 0) (fun _ _ _ e => e)
        rw [← clrS_out hpart] at hR2
        have FK := zdum; have FD := zdum; have FL := zdum
        refine walk ?_
        (repeat' first | exact Lv.nil | apply Lv.cons) <;> (intros; clear FL FD FK)
        refine ⟨(_, labX lab1 τ1.length 0, seen ++ [k]), ?_, ⟨rfl, rfl, trivial⟩, ⟨hR2 _, (hG3 _).get hI1 (by rw [hl1]; omega), (labX_old (lt_of_get hI1)).trans hl1, hG2.trans (hG3 _), ?_, ?_⟩, rfl⟩
        · dsimp only; rw [List.length_append, List.length_singleton]; have := nodup_lt hnd hlt hk hks; omega
        · exact nodup_snoc hnd hks
        · intro j hj; rcases List.mem_append.1 hj with hj | hj; exact hlt j hj; simp at hj; omega
end
end Go.Proofs.YtbhhmnfjjnnkiaaGreat
