/- What the rooms of the program compute. -/
import Derived.Test.YtbhhmnfjjnnkiaaGreatP2
set_option linter.unusedVariables false
set_option linter.unusedSimpArgs false
set_option maxRecDepth 10000
set_option maxHeartbeats 4000000
namespace Go.Proofs.YtbhhmnfjjnnkiaaGreat
open Go.TM

abbrev noPlace : TV := .agg [.int .i64 0, .int .i64 0, .int .i64 0, .int .i64 0, .bool false, .int .i64 0, .int .i64 0, .int .i64 0, .int .i64 0, .int .i64 0, .int .i64 0, .nili]

theorem timely_walk (now : Int) (σ : TS) : TPure Tryz.prog 72 [.int .i64 now] σ (.int .i64 (if TimeOk now then 0 else 1)) := by
  by_cases h : TimeOk now
  · rw [if_pos h]
    refine pure_of [] [.tmp 2] Tryz.func72 (by kernel_rfl) rfl (by kernel_rfl) fun X hR hN => ?_
    show Tw _ _ _ _ ([some _] ++ List.replicate 8 none) _
    simp only [List.replicate, List.cons_append, List.nil_append]
    have FK := zdum; have FD := zdum; have FL := zdum
    refine walk ?_
    (repeat' first | exact Lv.nil | apply Lv.cons) <;> (intros; clear FL FD FK)
  · rw [if_neg h]
    refine pure_of [] [.tmp 2] Tryz.func72 (by kernel_rfl) rfl (by kernel_rfl) fun X hR hN => ?_
    show Tw _ _ _ _ ([some _] ++ List.replicate 8 none) _
    simp only [List.replicate, List.cons_append, List.nil_append]
    have FK := zdum; have FD := zdum; have FL := zdum
    refine walk ?_
    (repeat' first | exact Lv.nil | apply Lv.cons) <;> (intros; clear FL FD FK)

section
variable {σ : TS} {lab : Nat → Nat} {c r lm : Nat} {locs : List Nat} {bs : List Bx} (h : RoomP σ lab c r lm locs bs)
include h

theorem box_lt {k : Nat} (hk : k < bs.length) : nth locs k < σ.length := by
  obtain ⟨h1, h2⟩ := h.box k hk
  split at h2
  · exact lt_of_get h2
  · obtain ⟨v, h3, _⟩ := h2
    exact lt_of_get h3

theorem lookPl (port : Int) (ρ : TS) : tlookup (mkTab Tryz.prog) (σ ++ ρ) 144 (.map lm) (.int .i64 port) true =
    some (match idx (pts bs) port with | some k => .tup [placeTV (nth (pts bs) k, nth locs k), .bool true] | none => .tup [noPlace, .bool false]) := by
  have := mapLook (kf := kI) (vf := placeTV) (a := port) tab144 rfl tab151 rfl kI_law (Eq.trans (get_old (l := ρ) (lt_of_get h.hm)) h.hm) true
  rw [show TV.int .i64 port = kI port from rfl, this, mGet_ents]
  cases idx (pts bs) port <;> rfl

theorem pfind_some {port : Int} {k : Nat} (hi : idx (pts bs) port = some k) : TDoes Tryz.prog 73 [.ptr r 0, .int .i64 port] σ (.tup [placeTV (nth (pts bs) k, nth locs k), .int .i64 0]) σ := by
  have hk : k < bs.length := by have := (idx_some hi).1; simpa using this
  have hb := box_lt h hk
  have hr := h.hr
  have hrl := lt_of_get h.hr
  have hl := lookPl h port
  rw [hi] at hl
  refine does_of [] [.cell 4 151, .tmp 5] Tryz.func73 (by kernel_rfl) rfl (by kernel_rfl) fun X hR hN => ?_
  show Tw _ _ _ _ ([some _, some _] ++ List.replicate 22 none) _
  simp only [List.replicate, List.cons_append, List.nil_append]
  have FK := And.intro @hr (@hb); have FD := @hl; have FL := zdum
  refine walk ?_
  (repeat' first | exact Lv.nil | apply Lv.cons) <;> (intros; clear FL FD FK)
  all_goals rfl

theorem pfind_none {port : Int} (hi : idx (pts bs) port = none) : TPure Tryz.prog 73 [.ptr r 0, .int .i64 port] σ (.tup [noPlace, .int .i64 20]) := by
  have hr := h.hr
  have hrl := lt_of_get h.hr
  have hl := lookPl h port
  rw [hi] at hl
  refine pure_of [] [.cell 4 151, .tmp 5] Tryz.func73 (by kernel_rfl) rfl (by kernel_rfl) fun X hR hN => ?_
  show Tw _ _ _ _ ([some _, some _] ++ List.replicate 22 none) _
  simp only [List.replicate, List.cons_append, List.nil_append]
  have FK := @hr; have FD := @hl; have FL := zdum
  refine walk ?_
  (repeat' first | exact Lv.nil | apply Lv.cons) <;> (intros; clear FL FD FK)

theorem put_walk (now port : Int) (s : List UInt8) : TCalls Tryz.prog 46 [.ptr r 0, .int .i64 now, .int .i64 port, .str (B s)] σ fun v σ' => v = .int .i64 (putR now port s bs).2 ∧
    ∃ lab', RoomP σ' lab' c r lm locs (putR now port s bs).1 ∧ Grow σ lab σ' lab' (fun n => c < n ∧ n ≤ c + bs.length) := by
  have hti := fun τ => timely_walk now τ
  by_cases hn : TimeOk now
  · simp only [if_pos hn] at hti
    cases hi : idx (pts bs) port with
    | none =>
      have hq : putR now port s bs = (bs, 20) := by rw [putR, if_neg (fun e => e hn), hi]
      rw [hq]
      have hf := pfind_none h hi
      refine TCalls.mono (Q := fun v σ' => v = .int .i64 20 ∧ σ' = σ) ?_ (fun v σ' q => ⟨q.1, lab, by rw [q.2]; exact h, by rw [q.2]; exact Grow.refl _ _ _⟩)
      show TPure _ _ _ _ _
      refine pure_of [] [.tmp 8] Tryz.func46 (by kernel_rfl) rfl (by kernel_rfl) fun X hR hN => ?_
      show Tw _ _ _ _ ([some _, some _, some _, some _] ++ List.replicate 37 none) _
      simp only [List.replicate, List.cons_append, List.nil_append]
      have FK := zdum; have FD := zdum; have FL := zdum; have cA := @hti; have cB := @hf
      refine walk ?_
      (repeat' first | exact Lv.nil | apply Lv.cons) <;> (intros; clear cB cA FL FD FK)
    | some k =>
      have hk : k < bs.length := by have := (idx_some hi).1; simpa using this
      have hf := pfind_some h hi
      have hp : nth (pts bs) k = (nth bs k).p := by rw [nth_eq (by simpa using hk), nth_eq hk]; simp
      rw [hp] at hf
      have hq : putR now port s bs = (bs.set k (putB now s (nth bs k)).1, (putB now s (nth bs k)).2) := by rw [putR, if_neg (fun e => e hn), hi]
      rw [hq]
      by_cases hs : (s.length : Int) > (nth bs k).p.size
      · have hb : putB now s (nth bs k) = (nth bs k, 11) := by rw [putB, if_pos hs]
        rw [hb, nth_eq hk, List.set_getElem_self]
        refine TCalls.mono (Q := fun v σ' => v = .int .i64 11 ∧ σ' = σ) ?_ (fun v σ' q => ⟨q.1, lab, by rw [q.2]; exact h, by rw [q.2]; exact Grow.refl _ _ _⟩)
        show TPure _ _ _ _ _
        refine pure_of [] [.tmp 8] Tryz.func46 (by kernel_rfl) rfl (by kernel_rfl) fun X hR hN => ?_
        show Tw _ _ _ _ ([some _, some _, some _, some _] ++ List.replicate 37 none) _
        simp only [List.replicate, List.cons_append, List.nil_append]
        have FK := zdum; have FD := zdum; have FL := zdum; have cA := @hti; have dA := @hf
        refine walk ?_
        (repeat' first | exact Lv.nil | apply Lv.cons) <;> (intros; clear dA cA FL FD FK)
      · have hg := fun ρ => (h.box k hk).grow (Grow.tail (σ := σ) (lab := lab) ρ (fun _ => False) 0) (fun e => e)
        have hput := fun ρ => boxput_walk (hg ρ) (h.ok _ (nth_mem hk)) now s (by omega)
        generalize hbb : putB now s (nth bs k) = bb at hput ⊢
        have hp' : bb.1.p = (nth bs k).p := by rw [← hbb]; exact putB_p _ _ _
        have ho' : bb.1.ok := by rw [← hbb]; exact putB_ok (h.ok _ (nth_mem hk)) hn
        refine calls_of [] [.tmp 8] Tryz.func46 (by kernel_rfl) rfl (by kernel_rfl) fun X hR hN => ?_
        show Tw _ _ _ _ ([some _, some _, some _, some _] ++ List.replicate 37 none) _
        simp only [List.replicate, List.cons_append, List.nil_append]
        have FK := zdum; have FD := zdum; have FL := zdum; have cA := @hti; have dA := @hf
        refine walk ?_
        (repeat' first | exact Lv.nil | apply Lv.cons) <;> (intros; clear dA cA FL FD FK)
        all_goals
          obtain ⟨m, hm1, hm2⟩ := hput _
          refine WL_do fun Cw cw => ?_
          refine O_invoke rfl rfl (hm1) ?_
          refine hm2.mono fun v σ' q => ?_
          obtain ⟨rfl, hb, hgr⟩ := q
          (with_reducible apply cw); (focus ((try simp only [tput, List.set_cons_zero, List.set_cons_succ]); exact rfl)); clear cw Cw
          have FK := zdum; have FD := zdum; have FL := zdum
          refine walk ?_
          (repeat' first | exact Lv.nil | apply Lv.cons) <;> (intros; clear FL FD FK)
          refine ⟨by first | rfl | trivial, _, h.turn hk hp' ?_ hb ho', ?_⟩
          · exact (Grow.tail _ _ _).trans hgr
          · exact ((Grow.tail _ _ _).trans hgr).mono fun n e => by omega
  · simp only [if_neg hn] at hti
    have hq : putR now port s bs = (bs, 1) := by rw [putR, if_pos hn]
    rw [hq]
    refine TCalls.mono (Q := fun v σ' => v = .int .i64 1 ∧ σ' = σ) ?_ (fun v σ' q => ⟨q.1, lab, by rw [q.2]; exact h, by rw [q.2]; exact Grow.refl _ _ _⟩)
    show TPure _ _ _ _ _
    refine pure_of [] [.tmp 8] Tryz.func46 (by kernel_rfl) rfl (by kernel_rfl) fun X hR hN => ?_
    show Tw _ _ _ _ ([some _, some _, some _, some _] ++ List.replicate 37 none) _
    simp only [List.replicate, List.cons_append, List.nil_append]
    have FK := zdum; have FD := zdum; have FL := zdum; have cA := @hti
    refine walk ?_
    (repeat' first | exact Lv.nil | apply Lv.cons) <;> (intros; clear cA FL FD FK)
end
end Go.Proofs.YtbhhmnfjjnnkiaaGreat
