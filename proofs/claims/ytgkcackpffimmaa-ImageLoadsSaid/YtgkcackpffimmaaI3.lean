/- The image's lists: what lay writes. -/
import Derived.Test.YtgkcackpffimmaaI2
set_option linter.unusedVariables false
set_option linter.unusedSimpArgs false
set_option maxRecDepth 10000
set_option maxHeartbeats 4000000
namespace Go.Proofs.Ytgkcackpffimmaa
open Go.TM


section
variable {σ : TS} {l t p : Nat} {bs : List UInt8} (hl : σ[l]? = some (.cells (wC t bs false))) (ht : σ[t]? = some (.right bs.length 1)) (hp : σ[p]? = some (.cells [.ptr l 0]))
include hl ht hp

theorem layW_walk (r : Row Win) (hn : r.l.length ≤ 600) (hx : ∀ x ∈ r.l, WinF x) (hb : bs.length ≤ 1000000) : TDoes Try.prog 89 [.ptr l 0, rowTV winC r, .func (.func 90) [] [.ptr p 0]] σ (.tup []) (wAt σ l t (bs ++ (be 2 r.l.length ++ r.l.flatMap winB))) := by
  have hw := WB.of hl ht
  have hsame := wAt_same hl ht
  have hpl : p ≠ l := fun e => by subst e; rw [hl] at hp; cases hp
  have hpt : p ≠ t := fun e => by subst e; rw [ht] at hp; cases hp
  have hpr := lt_of_get hp
  have hgp : ∀ b ρ, (wAt σ l t b ++ ρ)[p]? = some (.cells [.ptr l 0]) := fun b ρ => by rw [List.getElem?_append_left (by rw [wAt_len]; exact hpr), wAt_p hpl hpt]; exact hp
  have hTu : ∀ b, Turned σ (wAt σ l t b) := fun b => Turned.set (Turned.set (Turned.refl _) rfl) (by simp [TObj.fits, TV.fits, TV.fitsL, hw.ht, bvL_fits])
  obtain ⟨b0, e0⟩ : ∃ b, b = bs ++ be 2 r.l.length := ⟨_, rfl⟩
  have a0 := u16_to hw (n := r.l.length) (by omega) (by omega) e0 []
  rw [hsame] at a0
  simp only [List.append_nil] at a0
  have hlb : b0.length ≤ 1000002 := by rw [e0, List.length_append, be_len]; omega
  refine does_of [] [] Try.func89 (by kernel_rfl) rfl (by kernel_rfl) fun X hR hN => ?_
  show Tw _ _ _ _ ([some _, some _, some _] ++ List.replicate 19 none) _
  simp only [List.replicate, List.cons_append, List.nil_append]
  have FK := zdum; have FD := zdum; have FL := zdum; have dA := @a0
  refine walk ?_
  (repeat' first | exact Lv.nil | apply Lv.cons) <;> (intros; clear dA FL FD FK)
  refine T_each (α := Nat × TS) (fun (i, τ) => [none, none, some (some (.func (.func 90) [] [.ptr p 0])), none, none, none, none, none, none, none, none, none, some (some (rowTV winC r)), some (some (.int .i64 r.l.length)), some (some (.int .i64 i)), none, none, none, none, none, none, none]) (fun (i, τ) => i ≤ r.l.length) (fun (i, τ) => r.l.length - i) (fun (i, τ) => wAt σ l t (b0 ++ (r.l.take i).flatMap winB) ++ τ) ?_ ?_
  · refine ⟨(0, []), ⟨rfl, rfl, rfl, rfl, trivial⟩, Nat.zero_le _, ?_⟩
    simp only [List.take_zero, List.flatMap_nil, List.append_nil]
  · rintro ⟨i, τ⟩ q hi
    show Tw _ _ _ _ ([q 0, q 1, some (.func (.func 90) [] [.ptr p 0]), q 3, q 4, q 5, q 6, q 7, q 8, q 9, q 10, q 11, some (rowTV winC r), some (.int .i64 r.l.length), some (.int .i64 i), q 15, q 16, q 17, q 18, q 19, q 20, q 21]) (wAt σ l t (b0 ++ (r.l.take i).flatMap winB) ++ τ)
    have hlen : ((r.l.take i).flatMap winB).length ≤ i * 10 := flat_le (fun x hx' => winB_le (hx x (List.mem_of_mem_take hx'))) (by rw [List.length_take]; omega)
    rcases Nat.lt_or_ge i r.l.length with hlt | hge
    · obtain ⟨bi, ei⟩ : ∃ b, b = b0 ++ (r.l.take i).flatMap winB := ⟨_, rfl⟩
      obtain ⟨bj, ej⟩ : ∃ b, b = b0 ++ (r.l.take (i + 1)).flatMap winB := ⟨_, rfl⟩
      have hbl : bi.length ≤ 8000000 := by rw [ei, List.length_append]; omega
      have hij : bj = bi ++ winB (nth r.l i) := by rw [ei, ej, List.take_succ_eq_append_getElem hlt, List.flatMap_append, ← nth_eq hlt]; simp
      have a1 : ∀ ρ, TDoes Try.prog 90 [.agg (winC (nth r.l i)), .ptr p 0] (wAt σ l t bi ++ ρ) (.tup []) (wAt σ l t bj ++ ρ) := fun ρ => by
        have := win_walk' (hw.gl ρ bi) (hw.gt ρ bi) (hgp bi ρ) (nth r.l i) (hx _ (nth_mem hlt)) (by omega)
        unfold wAt at this
        rw [show wSet σ l t bi false = wAt σ l t bi from rfl, wSet_app hw.hl hw.ht hw.ne, ← hij] at this
        exact this
      rw [← ei]
      have FK := zdum; have FD := zdum; have FL := zdum; have dA := @a1
      refine walk ?_
      (repeat' first | exact Lv.nil | apply Lv.cons) <;> (intros; clear dA FL FD FK)
      refine ⟨(i + 1, τ ++ [_]), ?_, ⟨rfl, rfl, rfl, rfl, trivial⟩, ?_, by rw [← ej]⟩ <;> (try dsimp only) <;> omega
    · obtain rfl : i = r.l.length := by omega
      have FK := zdum; have FD := zdum; have FL := zdum
      refine walk ?_
      (repeat' first | exact Lv.nil | apply Lv.cons) <;> (intros; clear FL FD FK)
      all_goals (rw [List.take_length, e0, List.append_assoc])

theorem layV_walk (r : Row Link) (hn : r.l.length ≤ 600) (hx : ∀ x ∈ r.l, LinkF x) (hb : bs.length ≤ 1000000) : TDoes Try.prog 91 [.ptr l 0, rowTV linkC r, .func (.func 92) [] [.ptr p 0]] σ (.tup []) (wAt σ l t (bs ++ (be 2 r.l.length ++ r.l.flatMap linkB))) := by
  have hw := WB.of hl ht
  have hsame := wAt_same hl ht
  have hpl : p ≠ l := fun e => by subst e; rw [hl] at hp; cases hp
  have hpt : p ≠ t := fun e => by subst e; rw [ht] at hp; cases hp
  have hpr := lt_of_get hp
  have hgp : ∀ b ρ, (wAt σ l t b ++ ρ)[p]? = some (.cells [.ptr l 0]) := fun b ρ => by rw [List.getElem?_append_left (by rw [wAt_len]; exact hpr), wAt_p hpl hpt]; exact hp
  have hTu : ∀ b, Turned σ (wAt σ l t b) := fun b => Turned.set (Turned.set (Turned.refl _) rfl) (by simp [TObj.fits, TV.fits, TV.fitsL, hw.ht, bvL_fits])
  obtain ⟨b0, e0⟩ : ∃ b, b = bs ++ be 2 r.l.length := ⟨_, rfl⟩
  have a0 := u16_to hw (n := r.l.length) (by omega) (by omega) e0 []
  rw [hsame] at a0
  simp only [List.append_nil] at a0
  have hlb : b0.length ≤ 1000002 := by rw [e0, List.length_append, be_len]; omega
  refine does_of [] [] Try.func91 (by kernel_rfl) rfl (by kernel_rfl) fun X hR hN => ?_
  show Tw _ _ _ _ ([some _, some _, some _] ++ List.replicate 19 none) _
  simp only [List.replicate, List.cons_append, List.nil_append]
  have FK := zdum; have FD := zdum; have FL := zdum; have dA := @a0
  refine walk ?_
  (repeat' first | exact Lv.nil | apply Lv.cons) <;> (intros; clear dA FL FD FK)
  refine T_each (α := Nat × TS) (fun (i, τ) => [none, none, some (some (.func (.func 92) [] [.ptr p 0])), none, none, none, none, none, none, none, none, none, some (some (rowTV linkC r)), some (some (.int .i64 r.l.length)), some (some (.int .i64 i)), none, none, none, none, none, none, none]) (fun (i, τ) => i ≤ r.l.length) (fun (i, τ) => r.l.length - i) (fun (i, τ) => wAt σ l t (b0 ++ (r.l.take i).flatMap linkB) ++ τ) ?_ ?_
  · refine ⟨(0, []), ⟨rfl, rfl, rfl, rfl, trivial⟩, Nat.zero_le _, ?_⟩
    simp only [List.take_zero, List.flatMap_nil, List.append_nil]
  · rintro ⟨i, τ⟩ q hi
    show Tw _ _ _ _ ([q 0, q 1, some (.func (.func 92) [] [.ptr p 0]), q 3, q 4, q 5, q 6, q 7, q 8, q 9, q 10, q 11, some (rowTV linkC r), some (.int .i64 r.l.length), some (.int .i64 i), q 15, q 16, q 17, q 18, q 19, q 20, q 21]) (wAt σ l t (b0 ++ (r.l.take i).flatMap linkB) ++ τ)
    have hlen : ((r.l.take i).flatMap linkB).length ≤ i * 2000 := flat_le (fun x hx' => linkB_le (hx x (List.mem_of_mem_take hx'))) (by rw [List.length_take]; omega)
    rcases Nat.lt_or_ge i r.l.length with hlt | hge
    · obtain ⟨bi, ei⟩ : ∃ b, b = b0 ++ (r.l.take i).flatMap linkB := ⟨_, rfl⟩
      obtain ⟨bj, ej⟩ : ∃ b, b = b0 ++ (r.l.take (i + 1)).flatMap linkB := ⟨_, rfl⟩
      have hbl : bi.length ≤ 8000000 := by rw [ei, List.length_append]; omega
      have hij : bj = bi ++ linkB (nth r.l i) := by rw [ei, ej, List.take_succ_eq_append_getElem hlt, List.flatMap_append, ← nth_eq hlt]; simp
      have a1 : ∀ ρ, TDoes Try.prog 92 [.agg (linkC (nth r.l i)), .ptr p 0] (wAt σ l t bi ++ ρ) (.tup []) (wAt σ l t bj ++ ρ) := fun ρ => by
        have := link_writes' (hw.gl ρ bi) (hw.gt ρ bi) (hgp bi ρ) (nth r.l i) (hx _ (nth_mem hlt)) (by omega)
        unfold wAt at this
        rw [show wSet σ l t bi false = wAt σ l t bi from rfl, wSet_app hw.hl hw.ht hw.ne, ← hij] at this
        exact this
      rw [← ei]
      have FK := zdum; have FD := zdum; have FL := zdum; have dA := @a1
      refine walk ?_
      (repeat' first | exact Lv.nil | apply Lv.cons) <;> (intros; clear dA FL FD FK)
      refine ⟨(i + 1, τ ++ [_]), ?_, ⟨rfl, rfl, rfl, rfl, trivial⟩, ?_, by rw [← ej]⟩ <;> (try dsimp only) <;> omega
    · obtain rfl : i = r.l.length := by omega
      have FK := zdum; have FD := zdum; have FL := zdum
      refine walk ?_
      (repeat' first | exact Lv.nil | apply Lv.cons) <;> (intros; clear FL FD FK)
      all_goals (rw [List.take_length, e0, List.append_assoc])

theorem layP_walk (r : Row Port) (hn : r.l.length ≤ 600) (hx : ∀ x ∈ r.l, PortF x) (hb : bs.length ≤ 1000000) : TDoes Try.prog 96 [.ptr l 0, rowTV portC r, .func (.func 97) [] [.ptr p 0]] σ (.tup []) (wAt σ l t (bs ++ (be 2 r.l.length ++ r.l.flatMap portB))) := by
  have hw := WB.of hl ht
  have hsame := wAt_same hl ht
  have hpl : p ≠ l := fun e => by subst e; rw [hl] at hp; cases hp
  have hpt : p ≠ t := fun e => by subst e; rw [ht] at hp; cases hp
  have hpr := lt_of_get hp
  have hgp : ∀ b ρ, (wAt σ l t b ++ ρ)[p]? = some (.cells [.ptr l 0]) := fun b ρ => by rw [List.getElem?_append_left (by rw [wAt_len]; exact hpr), wAt_p hpl hpt]; exact hp
  have hTu : ∀ b, Turned σ (wAt σ l t b) := fun b => Turned.set (Turned.set (Turned.refl _) rfl) (by simp [TObj.fits, TV.fits, TV.fitsL, hw.ht, bvL_fits])
  obtain ⟨b0, e0⟩ : ∃ b, b = bs ++ be 2 r.l.length := ⟨_, rfl⟩
  have a0 := u16_to hw (n := r.l.length) (by omega) (by omega) e0 []
  rw [hsame] at a0
  simp only [List.append_nil] at a0
  have hlb : b0.length ≤ 1000002 := by rw [e0, List.length_append, be_len]; omega
  refine does_of [] [] Try.func96 (by kernel_rfl) rfl (by kernel_rfl) fun X hR hN => ?_
  show Tw _ _ _ _ ([some _, some _, some _] ++ List.replicate 19 none) _
  simp only [List.replicate, List.cons_append, List.nil_append]
  have FK := zdum; have FD := zdum; have FL := zdum; have dA := @a0
  refine walk ?_
  (repeat' first | exact Lv.nil | apply Lv.cons) <;> (intros; clear dA FL FD FK)
  refine T_each (α := Nat × TS) (fun (i, τ) => [none, none, some (some (.func (.func 97) [] [.ptr p 0])), none, none, none, none, none, none, none, none, none, some (some (rowTV portC r)), some (some (.int .i64 r.l.length)), some (some (.int .i64 i)), none, none, none, none, none, none, none]) (fun (i, τ) => i ≤ r.l.length) (fun (i, τ) => r.l.length - i) (fun (i, τ) => wAt σ l t (b0 ++ (r.l.take i).flatMap portB) ++ τ) ?_ ?_
  · refine ⟨(0, []), ⟨rfl, rfl, rfl, rfl, trivial⟩, Nat.zero_le _, ?_⟩
    simp only [List.take_zero, List.flatMap_nil, List.append_nil]
  · rintro ⟨i, τ⟩ q hi
    show Tw _ _ _ _ ([q 0, q 1, some (.func (.func 97) [] [.ptr p 0]), q 3, q 4, q 5, q 6, q 7, q 8, q 9, q 10, q 11, some (rowTV portC r), some (.int .i64 r.l.length), some (.int .i64 i), q 15, q 16, q 17, q 18, q 19, q 20, q 21]) (wAt σ l t (b0 ++ (r.l.take i).flatMap portB) ++ τ)
    have hlen : ((r.l.take i).flatMap portB).length ≤ i * 30 := flat_le (fun x hx' => portB_le (hx x (List.mem_of_mem_take hx'))) (by rw [List.length_take]; omega)
    rcases Nat.lt_or_ge i r.l.length with hlt | hge
    · obtain ⟨bi, ei⟩ : ∃ b, b = b0 ++ (r.l.take i).flatMap portB := ⟨_, rfl⟩
      obtain ⟨bj, ej⟩ : ∃ b, b = b0 ++ (r.l.take (i + 1)).flatMap portB := ⟨_, rfl⟩
      have hbl : bi.length ≤ 8000000 := by rw [ei, List.length_append]; omega
      have hij : bj = bi ++ portB (nth r.l i) := by rw [ei, ej, List.take_succ_eq_append_getElem hlt, List.flatMap_append, ← nth_eq hlt]; simp
      have a1 : ∀ ρ, TDoes Try.prog 97 [.agg (portC (nth r.l i)), .ptr p 0] (wAt σ l t bi ++ ρ) (.tup []) (wAt σ l t bj ++ ρ) := fun ρ => by
        have := port_writes' (hw.gl ρ bi) (hw.gt ρ bi) (hgp bi ρ) (nth r.l i) (hx _ (nth_mem hlt)) (by omega)
        unfold wAt at this
        rw [show wSet σ l t bi false = wAt σ l t bi from rfl, wSet_app hw.hl hw.ht hw.ne, ← hij] at this
        exact this
      rw [← ei]
      have FK := zdum; have FD := zdum; have FL := zdum; have dA := @a1
      refine walk ?_
      (repeat' first | exact Lv.nil | apply Lv.cons) <;> (intros; clear dA FL FD FK)
      refine ⟨(i + 1, τ ++ [_]), ?_, ⟨rfl, rfl, rfl, rfl, trivial⟩, ?_, by rw [← ej]⟩ <;> (try dsimp only) <;> omega
    · obtain rfl : i = r.l.length := by omega
      have FK := zdum; have FD := zdum; have FL := zdum
      refine walk ?_
      (repeat' first | exact Lv.nil | apply Lv.cons) <;> (intros; clear FL FD FK)
      all_goals (rw [List.take_length, e0, List.append_assoc])

end
end Go.Proofs.Ytgkcackpffimmaa
