/- What reading a room of the program computes. -/
import Derived.Test.YtbhhmnfjjnnkiaaGreatP3
set_option linter.unusedVariables false
set_option linter.unusedSimpArgs false
set_option maxRecDepth 10000
set_option maxHeartbeats 4000000
namespace Go.Proofs.YtbhhmnfjjnnkiaaGreat
open Go.TM

theorem cutS {t e : Nat} {s : List UInt8} {r : List (List UInt8)} : tslice (mkTab Tryz.prog) 178 (.sl (some (t, e)) (r.length + 1) ((s :: r).flatMap strC)) (some 1) none none = some (.sl (some (t, e)) r.length (r.flatMap strC)) := by
  have h : ((s :: r).flatMap strC).length = (r.length + 1) * 1 := by rw [strC_len]; simp
  have h2 : (List.take r.length (r.flatMap strC)) = r.flatMap strC := List.take_of_length_le (by rw [strC_len]; exact Nat.le_refl _)
  have h3 : ((s :: r).flatMap strC).drop 1 = r.flatMap strC := rfl
  unfold tslice
  simp only [tab178, tab9, Option.getD_some, Option.getD_none]
  rw [if_pos ⟨by omega, Nat.le_refl _, Nat.le_refl _, by simp, by omega⟩, if_pos ⟨trivial, trivial, h⟩]
  simp only [Nat.mul_one, Nat.add_sub_cancel, h3, h2]

theorem headS {own : Option (Nat × Nat)} {n : Nat} {s : List UInt8} {r : List (List UInt8)} (hn : 0 < n) : tindexAddr (mkTab Tryz.prog) 178 (.sl own n ((s :: r).flatMap strC)) (.int .i64 0) = some (.cp (.str (B s) :: r.flatMap strC)) := by
  unfold tindexAddr
  simp only [tab178, tab9]
  rw [if_pos ⟨Int.le_refl _, by omega, by simp [strC]⟩]
  rfl

section
variable {σ : TS} {lab : Nat → Nat} {c r lm : Nat} {locs : List Nat} {bs : List Bx} (h : RoomP σ lab c r lm locs bs)
include h

theorem sample_walk (now port : Int) : TPure Tryz.prog 86 [.ptr r 0, .int .i64 now, .int .i64 port] σ (.tup [.str (B (sampleR now port bs).1), .bool (sampleR now port bs).2.1, .int .i64 (sampleR now port bs).2.2]) := by
  have hti := fun τ => timely_walk now τ
  by_cases hn : TimeOk now
  · simp only [if_pos hn] at hti
    cases hi : idx (pts bs) port with
    | none =>
      have hq : sampleR now port bs = ([], false, 20) := by rw [sampleR, if_neg (fun e => e hn), hi]
      rw [hq]
      have hf := pfind_none h hi
      refine pure_of [] [.tmp 6, .tmp 7, .tmp 8] Tryz.func86 (by kernel_rfl) rfl (by kernel_rfl) fun X hR hN => ?_
      show Tw _ _ _ _ ([some _, some _, some _] ++ List.replicate 63 none) _
      simp only [List.replicate, List.cons_append, List.nil_append]
      have FK := zdum; have FD := zdum; have FL := zdum; have cA := @hti; have cB := @hf
      refine walk ?_
      (repeat' first | exact Lv.nil | apply Lv.cons) <;> (intros; clear cB cA FL FD FK)
    | some k =>
      have hk : k < bs.length := by have := (idx_some hi).1; simpa using this
      have hf := pfind_some h hi
      have hp : nth (pts bs) k = (nth bs k).p := by rw [nth_eq (by simpa using hk), nth_eq hk]; simp
      rw [hp] at hf
      have hq : sampleR now port bs = sampleB now (nth bs k) := by rw [sampleR, if_neg (fun e => e hn), hi]
      rw [hq]
      obtain ⟨hb1, hb2⟩ := h.box k hk
      have hok := h.ok _ (nth_mem hk)
      have hfr := hok.fresh
      have htm := hok.time
      by_cases hkind : (nth bs k).p.kind = 1
      · rw [if_pos hkind] at hb2
        have hlt := lt_of_get hb2
        by_cases h0 : (nth bs k).l = []
        · have hs : sampleB now (nth bs k) = ([], false, 23) := by rw [sampleB, if_neg (fun e => e hkind), if_pos h0]
          rw [hs]
          rw [h0] at hb2
          refine pure_of [] [.tmp 6, .tmp 7, .tmp 8] Tryz.func86 (by kernel_rfl) rfl (by kernel_rfl) fun X hR hN => ?_
          show Tw _ _ _ _ ([some _, some _, some _] ++ List.replicate 63 none) _
          simp only [List.replicate, List.cons_append, List.nil_append]
          have FK := And.intro @hkind (And.intro @hb2 (@List.isEmpty_nil.{0})); have FD := zdum; have FL := zdum; have cA := @hti; have dA := @hf
          refine walk ?_
          (repeat' first | exact Lv.nil | apply Lv.cons) <;> (intros; clear dA cA FL FD FK)
        · have he : (!(nth bs k).l.isEmpty) = true := by simpa [List.isEmpty_iff] using h0
          rw [he] at hb2
          by_cases hl : now < (nth bs k).at_
          · have hs : sampleB now (nth bs k) = ([], false, 24) := by rw [sampleB, if_neg (fun e => e hkind), if_neg h0, if_pos hl]
            rw [hs]
            refine pure_of [] [.tmp 6, .tmp 7, .tmp 8] Tryz.func86 (by kernel_rfl) rfl (by kernel_rfl) fun X hR hN => ?_
            show Tw _ _ _ _ ([some _, some _, some _] ++ List.replicate 63 none) _
            simp only [List.replicate, List.cons_append, List.nil_append]
            have FK := And.intro @hkind (@hb2); have FD := zdum; have FL := zdum; have cA := @hti; have dA := @hf
            refine walk ?_
            (repeat' first | exact Lv.nil | apply Lv.cons) <;> (intros; clear dA cA FL FD FK)
          · have hs : sampleB now (nth bs k) = ((nth bs k).l.headD [], decide (now - (nth bs k).at_ ≤ (nth bs k).p.fresh), 0) := by rw [sampleB, if_neg (fun e => e hkind), if_neg h0, if_neg hl]
            rw [hs]
            refine pure_of [] [.tmp 6, .tmp 7, .tmp 8] Tryz.func86 (by kernel_rfl) rfl (by kernel_rfl) fun X hR hN => ?_
            show Tw _ _ _ _ ([some _, some _, some _] ++ List.replicate 63 none) _
            simp only [List.replicate, List.cons_append, List.nil_append]
            have FK := And.intro @hkind (@hb2); have FD := zdum; have FL := zdum; have cA := @hti; have dA := @hf
            refine walk ?_
            (repeat' first | exact Lv.nil | apply Lv.cons) <;> (intros; clear dA cA FL FD FK)
      · rw [if_neg hkind] at hb2
        have hs : sampleB now (nth bs k) = ([], false, 13) := by rw [sampleB, if_pos hkind]
        rw [hs]
        refine pure_of [] [.tmp 6, .tmp 7, .tmp 8] Tryz.func86 (by kernel_rfl) rfl (by kernel_rfl) fun X hR hN => ?_
        show Tw _ _ _ _ ([some _, some _, some _] ++ List.replicate 63 none) _
        simp only [List.replicate, List.cons_append, List.nil_append]
        have FK := @hkind; have FD := zdum; have FL := zdum; have cA := @hti; have dA := @hf
        refine walk ?_
        (repeat' first | exact Lv.nil | apply Lv.cons) <;> (intros; clear dA cA FL FD FK)
  · simp only [if_neg hn] at hti
    have hq : sampleR now port bs = ([], false, 1) := by rw [sampleR, if_pos hn]
    rw [hq]
    refine pure_of [] [.tmp 6, .tmp 7, .tmp 8] Tryz.func86 (by kernel_rfl) rfl (by kernel_rfl) fun X hR hN => ?_
    show Tw _ _ _ _ ([some _, some _, some _] ++ List.replicate 63 none) _
    simp only [List.replicate, List.cons_append, List.nil_append]
    have FK := zdum; have FD := zdum; have FL := zdum; have cA := @hti
    refine walk ?_
    (repeat' first | exact Lv.nil | apply Lv.cons) <;> (intros; clear cA FL FD FK)

theorem next_walk (port : Int) : TCalls Tryz.prog 87 [.ptr r 0, .int .i64 port] σ fun v σ' => v = .tup [.str (B (nextR port bs).2.1), .bool (nextR port bs).2.2.1, .int .i64 (nextR port bs).2.2.2] ∧
    ∃ lab', RoomP σ' lab' c r lm locs (nextR port bs).1 ∧ Grow σ lab σ' lab' (fun n => c < n ∧ n ≤ c + bs.length) := by
  cases hi : idx (pts bs) port with
  | none =>
    have hq : nextR port bs = (bs, [], false, 20) := by rw [nextR, hi]
    rw [hq]
    have hf := pfind_none h hi
    refine TCalls.mono (Q := fun v σ' => v = .tup [.str (B []), .bool false, .int .i64 20] ∧ σ' = σ) ?_ (fun v σ' q => ⟨q.1, lab, by rw [q.2]; exact h, by rw [q.2]; exact Grow.refl _ _ _⟩)
    show TPure _ _ _ _ _
    refine pure_of [] [.tmp 4, .tmp 5, .tmp 6] Tryz.func87 (by kernel_rfl) rfl (by kernel_rfl) fun X hR hN => ?_
    show Tw _ _ _ _ ([some _, some _] ++ List.replicate 58 none) _
    simp only [List.replicate, List.cons_append, List.nil_append]
    have FK := zdum; have FD := zdum; have FL := zdum; have cA := @hf
    refine walk ?_
    (repeat' first | exact Lv.nil | apply Lv.cons) <;> (intros; clear cA FL FD FK)
  | some k =>
    have hk : k < bs.length := by have := (idx_some hi).1; simpa using this
    have hf := pfind_some h hi
    have hp : nth (pts bs) k = (nth bs k).p := by rw [nth_eq (by simpa using hk), nth_eq hk]; simp
    rw [hp] at hf
    have hq : nextR port bs = (bs.set k (nextB (nth bs k)).1, (nextB (nth bs k)).2) := by rw [nextR, hi]
    rw [hq]
    have hbx := h.box k hk
    obtain ⟨hb1, hb2⟩ := h.box k hk
    have hok := h.ok _ (nth_mem hk)
    by_cases hkind : (nth bs k).p.kind = 1
    · have hb : nextB (nth bs k) = (nth bs k, [], false, 13) := by rw [nextB, if_pos hkind]
      rw [hb, nth_eq hk, List.set_getElem_self]
      refine TCalls.mono (Q := fun v σ' => v = .tup [.str (B []), .bool false, .int .i64 13] ∧ σ' = σ) ?_ (fun v σ' q => ⟨q.1, lab, by rw [q.2]; exact h, by rw [q.2]; exact Grow.refl _ _ _⟩)
      show TPure _ _ _ _ _
      refine pure_of [] [.tmp 4, .tmp 5, .tmp 6] Tryz.func87 (by kernel_rfl) rfl (by kernel_rfl) fun X hR hN => ?_
      show Tw _ _ _ _ ([some _, some _] ++ List.replicate 58 none) _
      simp only [List.replicate, List.cons_append, List.nil_append]
      have FK := @hkind; have FD := zdum; have FL := zdum; have dA := @hf
      refine walk ?_
      (repeat' first | exact Lv.nil | apply Lv.cons) <;> (intros; clear dA FL FD FK)
    · rw [if_neg hkind] at hb2
      obtain ⟨v, hb3, hb4⟩ := hb2
      have hlt := lt_of_get hb3
      have hlen := lenQ hb4
      have hp' := nextB_p (nth bs k)
      have ho' := nextB_ok hok
      cases hl : (nth bs k).l with
      | nil =>
        have hb : nextB (nth bs k) = ({ nth bs k with lost := false }, [], (nth bs k).lost, 23) := nextB_nil hkind hl
        rw [hb] at hp' ho' ⊢
        rw [hl] at hlen
        have hlen : tlenOp (mkTab Tryz.prog) 178 v = some (.int .i64 0) := hlen
        refine calls_of [] [.tmp 4, .tmp 5, .tmp 6] Tryz.func87 (by kernel_rfl) rfl (by kernel_rfl) fun X hR hN => ?_
        show Tw _ _ _ _ ([some _, some _] ++ List.replicate 58 none) _
        simp only [List.replicate, List.cons_append, List.nil_append]
        have FK := And.intro @hkind (@hb3); have FD := @hlen; have FL := zdum; have dA := @hf
        refine walk ?_
        (repeat' first | exact Lv.nil | apply Lv.cons) <;> (intros; clear dA FL FD FK)
        all_goals
          refine ⟨by first | rfl | trivial, labX lab σ.length (c + 1 + k), h.turn hk hp' (Grow.set (C := (· = c + 1 + k)) (lab := lab) (l := nth locs k) _ hb1 (c + 1 + k)) ⟨(labX_old hlt).trans hb1, ?_⟩ ho', (Grow.set (C := (· = c + 1 + k)) (lab := lab) (l := nth locs k) _ hb1 (c + 1 + k)).mono fun n e => by have e : n = c + 1 + k := e; omega⟩
          rw [if_neg hkind]
          exact ⟨v, by rw [List.getElem?_append_left (by simpa using hlt)]; exact List.getElem?_set_self hlt, hb4.set hb3 _ _ _⟩
      | cons s rs =>
        have hb : nextB (nth bs k) = ({ nth bs k with l := rs, lost := false }, s, (nth bs k).lost, 0) := nextB_cons hkind hl
        rw [hb] at hp' ho' ⊢
        rw [hl] at hb4 hlen
        rcases hb4 with ⟨_, hb4⟩ | ⟨t, e, hb5, rfl, hb6⟩
        · cases hb4
        have hlen2 : ((rs.length + 1 : Nat) : Int) ≠ 0 := by omega
        refine calls_of [] [.tmp 4, .tmp 5, .tmp 6] Tryz.func87 (by kernel_rfl) rfl (by kernel_rfl) fun X hR hN => ?_
        show Tw _ _ _ _ ([some _, some _] ++ List.replicate 58 none) _
        simp only [List.replicate, List.cons_append, List.nil_append]
        have FK := And.intro @hkind (@hb3); have FD := And.intro @cutS (@headS); have FL := zdum; have dA := @hf
        refine walk ?_
        (repeat' first | exact Lv.nil | apply Lv.cons) <;> (intros; clear dA FL FD FK)
        all_goals
          refine ⟨by first | rfl | trivial, labX lab σ.length (c + 1 + k), h.turn hk hp' (Grow.set (C := (· = c + 1 + k)) (lab := lab) (l := nth locs k) _ hb1 (c + 1 + k)) ⟨(labX_old hlt).trans hb1, ?_⟩ ho', (Grow.set (C := (· = c + 1 + k)) (lab := lab) (l := nth locs k) _ hb1 (c + 1 + k)).mono fun n e => by have e : n = c + 1 + k := e; omega⟩
          rw [if_neg hkind]
          exact ⟨_, by rw [List.getElem?_append_left (by simpa using hlt)]; exact List.getElem?_set_self hlt, QS.set (.inr ⟨t, e, hb5, rfl, hb6⟩) hb3 _ _ _⟩
end
end Go.Proofs.YtbhhmnfjjnnkiaaGreat
