/- The image's loader: the lists of links and of ports. -/
import Derived.Test.YtgkcackpffimmaaI12
set_option linter.unusedVariables false
set_option linter.unusedSimpArgs false
set_option maxRecDepth 10000
set_option maxHeartbeats 4000000
namespace Go.Proofs.Ytgkcackpffimmaa
open Go.TM

theorem linkR_le (s : RSt) : (linkR s).2.1.length ≤ s.1.length :=
  Nat.le_trans (tk_le (f := intR) (fun x => rS_le 2 x) _) (Nat.le_trans (rS_le _ _) (Nat.le_trans (rS_le _ _) (Nat.le_trans (rS_le _ _) (Nat.le_trans (rS_le _ _) (rS_le _ _)))))
theorem link_at {σ : TS} {l p : Nat} {x x' : RSt} {v : Link} {bad : Int} (hlt : l < σ.length) (hpr : p < σ.length) (hpl : p ≠ l) (hp : σ[p]? = some (.cells [.ptr l 0, .int .i64 bad])) (hx : x.1.length ≤ 100000) (ρ : TS) (ex : x' = (linkR x).2) (ev : v = (linkR x).1) :
    TDoes Try.prog 169 [.ptr p 0] (rAt σ l x ++ ρ) (.agg (linkC v)) (rAt σ l x' ++ ρ) := by
  have := link_walk11 (σ := rAt σ l x ++ ρ) (s := x) (bad := bad) (p := p) (by rw [List.getElem?_append_left (by rw [rAt_len]; exact hlt)]; exact rAt_l hlt) (by rw [List.getElem?_append_left (by rw [rAt_len]; exact hpr), rAt_p hpl]; exact hp) hx
  rw [ex, ev]
  exact rAt_rAt (s' := (linkR x).2) (ρ := ρ) hlt ▸ this

/- V -/
section
variable {σ : TS} {w : Bool} {tk n : Nat} {cs : List TV} {x : Link}
theorem app0V : tappend (mkTab Try.prog) true σ 24 24 .nils (.sl none 1 (linkC x)) = some (.sl (some (σ.length, 1)) 1 (linkC x), σ ++ [.right 1 8]) :=
  app_nil tab24 rfl tab40 rfl rfl (src_sl (σ := σ) (own := none) (cs := (linkC x)) (n := 1) (sz := 8) tab24 rfl rfl) (by simp only [go_sem, TV.one, List.all_cons, List.all_nil, Bool.and_self]) rfl (by decide) (by decide) (by decide)
theorem app1V (hr : σ[tk]? = some (.right n 8)) (hn : cs.length = n * 8) (hb : n ≤ 1000000) :
    tappend (mkTab Try.prog) w σ 24 24 (.sl (some (tk, n)) n cs) (.sl none 1 (linkC x)) = some (.sl (some (tk, n + 1)) (n + 1) (cs ++ (linkC x)), σ.set tk (.right (n + 1) 8)) :=
  app_own (w := w) tab24 rfl tab40 rfl rfl (src_sl (σ := σ) (own := none) (cs := (linkC x)) (n := 1) (sz := 8) tab24 rfl rfl) (by simp only [go_sem, TV.one, List.all_cons, List.all_nil, Bool.and_self]) rfl hr hn (by show (n + 1) * 80 ≤ _; omega) (by omega)
end
theorem bsV (σ : TS) (x : Link) : tbuildSlice (mkTab Try.prog) false σ 24 1 [(0, .agg (linkC x))] = some (.sl none 1 (linkC x), σ) := by
  have hz : rowZero [TV.int .i64 0, TV.int .i64 0, TV.int .i64 0, TV.int .i64 0, TV.bool false, TV.int .i64 0, TV.int .i64 0, TV.nils] 8 = [TV.int .i64 0, TV.int .i64 0, TV.int .i64 0, TV.int .i64 0, TV.bool false, TV.int .i64 0, TV.int .i64 0, TV.nils] := rfl
  unfold tbuildSlice
  simp only [tab24, tab40, TV.cells, hz, Nat.reduceMul, Nat.reducePow, Nat.reduceLeDiff, ne_eq, reduceCtorEq, not_false_eq_true, and_self, if_true, tfill, splice, List.take_zero, List.take_succ_cons, List.drop_zero, List.drop_succ_cons, List.length_cons, List.length_nil, Nat.reduceAdd, Nat.zero_add, List.nil_append, List.cons_append, List.all_cons, List.all_nil, TV.one, Bool.and_self, tright, Bool.false_eq_true, if_false, Nat.zero_mul, Nat.one_mul]
  rw [if_pos (by have := rowTV_one (f := intC) (r := x.to); simpa [TV.one] using this)]
@[go_sem] theorem flatFitsV (n : Nat) (m : List Link) : TV.fitsL n (m.flatMap linkC) = true := by
  have := rowTV_fits (n := n) (f := linkC) (r := Row.some m) (fun _ => by simp only [go_sem, TV.fitsL, TV.fits, Bool.and_self])
  simpa [rowTV, Row.some, TV.fits] using this
theorem takeV_walk {σ : TS} {l p : Nat} {s : RSt} {bad : Int} (hp : σ[p]? = some (.cells [.ptr l 0, .int .i64 bad])) (hl : σ[l]? = some (.cells (rC s.1 s.2))) (hr : s.1.length ≤ 100000) : TDoes Try.prog 168 [.ptr l 0, .func (.func 169) [.ptr p 0] []] σ (rowTV linkC (rowOf (tk linkR s).1)) (rAt σ l (tk linkR s).2) := by
  have hlt := lt_of_get hl
  have hsame := rAt_same hl
  have hTu : ∀ x, Turned σ (rAt σ l x) := fun x => Turned.set (Turned.refl _) rfl
  have hv := rV2_le s
  have a0 := ru16_at hlt hr [] (s' := rS 2 s) (v := rV 2 s) rfl rfl
  rw [hsame] at a0
  simp only [List.append_nil] at a0
  have hr0 : (rS 2 s).1.length ≤ 100000 := by have := rS_le 2 s; omega
  have hfl : ∀ m : List Link, (m.flatMap linkC).length = m.length * 8 := fun m => flat_lenT (f := linkC) (k := 8) (fun _ => rfl) m
  have hpl : p ≠ l := fun e => by subst e; rw [hl] at hp; cases hp
  have hpr := lt_of_get hp
  have hgp : ∀ x ρ, (rAt σ l x ++ ρ)[p]? = some (.cells [.ptr l 0, .int .i64 bad]) := fun x ρ => by rw [List.getElem?_append_left (by rw [rAt_len]; exact hpr), rAt_p hpl]; exact hp
  obtain ⟨qa, qx, hq⟩ : ∃ qa qx, tk linkR s = (qa, qx) := ⟨_, _, rfl⟩
  have hq0 : (qa, qx) = ([] ++ (tkN linkR (rV 2 s).toNat (rS 2 s)).1, (tkN linkR (rV 2 s).toNat (rS 2 s)).2) := hq.symm
  rw [hq]
  clear hq
  refine does_of [22] [.tmp 4] Try.func168 (by kernel_rfl) rfl (by kernel_rfl) fun X hR hN => ?_
  show Tw _ _ _ _ ([some _, some _] ++ List.replicate 22 none) _
  simp only [List.replicate, List.cons_append, List.nil_append]
  have FK := zdum; have FD := zdum; have FL := zdum; have dA := @a0
  refine walk ?_
  (repeat' first | exact Lv.nil | apply Lv.cons) <;> (intros; clear dA FL FD FK)
  refine T_each (α := Nat × RSt × (List Link) × TV × TS) (fun (n, x, acc, lv, ρ) => [some (some (.ptr l 0)), some (some (.func (.func 169) [.ptr p 0] [])), none, none, none, some (some (lv)), some (some (.int .i64 n)), none, none, none, none, none, none, none, none, none, none, none, none, none, none, none, none, none]) (fun (n, x, acc, lv, ρ) => (qa, qx) = (acc ++ (tkN linkR n x).1, (tkN linkR n x).2) ∧ x.1.length ≤ 100000 ∧ acc.length + n ≤ 65535 ∧ ((acc = [] ∧ lv = .nils ∧ ρ = []) ∨ (acc ≠ [] ∧ lv = .sl (some (σ.length, acc.length)) acc.length (acc.flatMap linkC) ∧ ρ = [.right acc.length 8]))) (fun (n, x, acc, lv, ρ) => n) (fun (n, x, acc, lv, ρ) => rAt σ l x ++ ρ) ?_ ?_
  · refine ⟨((rV 2 s).toNat, rS 2 s, [], .nils, []), ⟨rfl, rfl, rfl, ?_, trivial⟩, ⟨hq0, hr0, ?_, .inl ⟨rfl, rfl, rfl⟩⟩, ?_⟩
    · show some (TV.int .i64 (rV 2 s)) = some (.int .i64 (((rV 2 s).toNat : Nat) : Int))
      rw [Int.toNat_of_nonneg hv.1]
    · simp only [List.length_nil]; omega
    · simp only [List.append_nil]
  · rintro ⟨n, x, acc, lv, ρ⟩ q ⟨hk, hx, hlen, hsh⟩
    show Tw _ _ _ _ ([some (.ptr l 0), some (.func (.func 169) [.ptr p 0] []), q 2, q 3, q 4, some (lv), some (.int .i64 n), q 7, q 8, q 9, q 10, q 11, q 12, q 13, q 14, q 15, q 16, q 17, q 18, q 19, q 20, q 21, q 22, q 23]) (rAt σ l x ++ ρ)
    have herr := err_at (s := x) hlt ρ
    by_cases hgo : n = 0 ∨ x.2 ≠ 0
    · have hk2 : qa = acc ∧ qx = x := by
        rcases hgo with rfl | he
        · rw [tkN] at hk; simpa using hk
        · rw [tkN_err he] at hk; simpa using hk
      obtain ⟨rfl, rfl⟩ := hk2
      rcases hsh with ⟨rfl, rfl, rfl⟩ | ⟨h1, rfl, rfl⟩
      · simp only [List.append_nil] at herr ⊢
        rcases hgo with rfl | he
        · have FK := zdum; have FD := zdum; have FL := zdum; have cA := @herr
          refine walk ?_
          (repeat' first | exact Lv.nil | apply Lv.cons) <;> (intros; clear cA FL FD FK)
          all_goals rfl
        · have FK := @he; have FD := zdum; have FL := zdum; have cA := @herr
          refine walk ?_
          (repeat' first | exact Lv.nil | apply Lv.cons) <;> (intros; clear cA FL FD FK)
          all_goals rfl
      · rw [rowOf_some _ h1] at *
        rcases hgo with rfl | he
        · have FK := zdum; have FD := zdum; have FL := zdum; have cA := @herr
          refine walk ?_
          (repeat' first | exact Lv.nil | apply Lv.cons) <;> (intros; clear cA FL FD FK)
        · have FK := @he; have FD := zdum; have FL := zdum; have cA := @herr
          refine walk ?_
          (repeat' first | exact Lv.nil | apply Lv.cons) <;> (intros; clear cA FL FD FK)
    · obtain ⟨m, rfl⟩ : ∃ m, n = m + 1 := ⟨n - 1, by omega⟩
      have he : x.2 = 0 := by omega
      rw [tkN_ok he] at hk
      obtain ⟨x', ex⟩ : ∃ x', x' = (linkR x).2 := ⟨_, rfl⟩
      obtain ⟨v, ev⟩ : ∃ v, v = (linkR x).1 := ⟨_, rfl⟩
      rw [← ex, ← ev] at hk
      have hx' : x'.1.length ≤ 100000 := by rw [ex]; exact Nat.le_trans (linkR_le x) hx
      have a1 : ∀ ρ, TDoes Try.prog 169 [.ptr p 0] (rAt σ l x ++ ρ) (.agg (linkC v)) (rAt σ l x' ++ ρ) := fun ρ => link_at hlt hpr hpl hp hx ρ ex ev
      have happ : ∀ (k : Nat) (w : Bool), k = acc.length → tappend (mkTab Try.prog) w (rAt σ l x' ++ [.right k 8]) 24 24 (.sl (some (σ.length, k)) k (acc.flatMap linkC)) (.sl none 1 (linkC v)) = some (.sl (some (σ.length, k + 1)) (k + 1) (acc.flatMap linkC ++ (linkC v)), rAt σ l x' ++ [.right (k + 1) 8]) := fun k w ek => by
        rw [app1V (by rw [rAt_app0]; rfl) (by rw [hfl, ek]) (by omega), rAt_setapp0]; rfl
      clear ex ev
      rcases hsh with ⟨rfl, rfl, rfl⟩ | ⟨h1, rfl, rfl⟩
      · have a1 := a1 []
        simp only [List.append_nil] at a1 herr ⊢
        have FK := @he; have FD := And.intro @bsV (@app0V); have FL := zdum; have cA := @herr; have dA := @a1
        refine walk ?_
        (repeat' first | exact Lv.nil | apply Lv.cons) <;> (intros; clear dA cA FL FD FK)
        refine ⟨(m, x', [v], .sl (some (σ.length, 1)) 1 (linkC v), [.right 1 8]), ?_, ⟨rfl, rfl, rfl, ?_, trivial⟩, ⟨by simpa using hk, hx', ?_, .inr ⟨by simp, rfl, rfl⟩⟩, rfl⟩
        · dsimp only; omega
        · rw [show ((m + 1 : Nat) : Int) - 1 = (m : Int) by omega]
        · simp only [List.length_cons, List.length_nil] at hlen ⊢; omega
      · have FK := @he; have FD := And.intro @bsV (@happ); have FL := zdum; have cA := @herr; have dA := @a1
        refine walk ?_
        (repeat' first | exact Lv.nil | apply Lv.cons) <;> (intros; clear dA cA FL FD FK)
        refine ⟨(m, x', acc ++ [v], .sl (some (σ.length, acc.length + 1)) (acc.length + 1) (acc.flatMap linkC ++ (linkC v)), [.right (acc.length + 1) 8]), ?_, ⟨rfl, rfl, rfl, ?_, trivial⟩, ⟨by simpa using hk, hx', ?_, .inr ⟨by simp, ?_, ?_⟩⟩, rfl⟩
        · dsimp only; omega
        · rw [show ((m + 1 : Nat) : Int) - 1 = (m : Int) by omega]
        · rw [List.length_append, List.length_singleton]; omega
        · rw [List.length_append, List.length_singleton, List.flatMap_append]; rfl
        · rw [List.length_append, List.length_singleton]
end Go.Proofs.Ytgkcackpffimmaa
