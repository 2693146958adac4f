/- The image's loader: lists. -/
import Derived.Test.YtgkcackpffimmaaI9
set_option linter.unusedVariables false
set_option linter.unusedSimpArgs false
set_option maxRecDepth 10000
set_option maxHeartbeats 4000000
namespace Go.Proofs.Ytgkcackpffimmaa
open Go.TM

def rowOf {α : Type} (l : List α) : Row α := ⟨l.isEmpty, l, fun h => by simpa using h⟩
theorem rowOf_nil {α : Type} (f : α → List TV) : rowTV f (rowOf []) = .nils := rfl
theorem rowOf_some {α : Type} (f : α → List TV) {l : List α} (h : l ≠ []) : rowTV f (rowOf l) = .sl none l.length (l.flatMap f) := by
  unfold rowTV rowOf
  rw [if_neg (by simpa using h)]
/-- So many are read, while nothing is wrong. -/
def tkN {α : Type} (f : RSt → α × RSt) : Nat → RSt → List α × RSt
  | 0, s => ([], s)
  | n + 1, s => if s.2 ≠ 0 then ([], s) else ((f s).1 :: (tkN f n (f s).2).1, (tkN f n (f s).2).2)
def tk {α : Type} (f : RSt → α × RSt) (s : RSt) : List α × RSt := tkN f (rV 2 s).toNat (rS 2 s)
theorem tkN_err {α : Type} {f : RSt → α × RSt} {n : Nat} {s : RSt} (h : s.2 ≠ 0) : tkN f n s = ([], s) := by
  cases n with
  | zero => rfl
  | succ n => rw [tkN, if_pos h]
theorem tkN_ok {α : Type} {f : RSt → α × RSt} {n : Nat} {s : RSt} (h : s.2 = 0) : tkN f (n + 1) s = ((f s).1 :: (tkN f n (f s).2).1, (tkN f n (f s).2).2) := by
  rw [tkN, if_neg (by omega)]
theorem tkN_le {α : Type} {f : RSt → α × RSt} (hf : ∀ x, (f x).2.1.length ≤ x.1.length) : ∀ (n : Nat) (s : RSt), (tkN f n s).2.1.length ≤ s.1.length
  | 0, s => Nat.le_refl _
  | n + 1, s => by
    rw [tkN]
    split
    · exact Nat.le_refl _
    · exact Nat.le_trans (tkN_le hf n _) (hf s)
theorem rV_range {k : Nat} (s : RSt) (hk : k ≤ 4) : 0 ≤ rV k s ∧ rV k s < 256 ^ k := by
  have h0 := un_nonneg (rT k s.1 s.2).1
  have h1 := un_lt (rT k s.1 s.2).1
  have h2 := rT_len k s.1 s.2
  refine ⟨h0, Int.lt_of_lt_of_le h1 ?_⟩
  have := Nat.pow_le_pow_right (n := 256) (by decide) h2
  exact_mod_cast this
theorem rV2_le (s : RSt) : 0 ≤ rV 2 s ∧ rV 2 s ≤ 65535 := by
  have := rV_range (k := 2) s (by omega)
  exact ⟨this.1, by have := this.2; simp at this; omega⟩
theorem err_at {σ : TS} {l : Nat} {s : RSt} (hl : l < σ.length) (ρ : TS) : TPure Try.prog 130 [.ptr l 0] (rAt σ l s ++ ρ) (.int .i64 s.2) :=
  err_walk (r := s.1) (e := s.2) (by rw [List.getElem?_append_left (by rw [rAt_len]; exact hl)]; exact rAt_l hl)
theorem flat_lenT {α : Type} {f : α → List TV} {k : Nat} (hf : ∀ x, (f x).length = k) : ∀ l : List α, (l.flatMap f).length = l.length * k
  | [] => by simp
  | x :: l => by rw [List.flatMap_cons, List.length_append, hf, flat_lenT hf l, List.length_cons, Nat.add_mul]; omega
abbrev intR (s : RSt) : Int × RSt := (rV 2 s, rS 2 s)

/- I -/
section
variable {σ : TS} {w : Bool} {tk n : Nat} {cs : List TV} {x : Int}
theorem app0I : tappend (mkTab Try.prog) true σ 22 22 .nils (.sl none 1 [.int .i64 x]) = some (.sl (some (σ.length, 1)) 1 [.int .i64 x], σ ++ [.right 1 1]) :=
  app_nil tab22 rfl tab3 rfl rfl (src_sl (σ := σ) (own := none) (cs := [.int .i64 x]) (n := 1) (sz := 1) tab22 rfl rfl) rfl rfl (by decide) (by decide) (by decide)
theorem app1I (hr : σ[tk]? = some (.right n 1)) (hn : cs.length = n * 1) (hb : n ≤ 1000000) :
    tappend (mkTab Try.prog) w σ 22 22 (.sl (some (tk, n)) n cs) (.sl none 1 [.int .i64 x]) = some (.sl (some (tk, n + 1)) (n + 1) (cs ++ [.int .i64 x]), σ.set tk (.right (n + 1) 1)) :=
  app_own (w := w) tab22 rfl tab3 rfl rfl (src_sl (σ := σ) (own := none) (cs := [.int .i64 x]) (n := 1) (sz := 1) tab22 rfl rfl) rfl rfl hr hn (by show (n + 1) * 8 ≤ _; omega) (by omega)
end
@[go_sem] theorem flatFitsI (n : Nat) (m : List Int) : TV.fitsL n (m.flatMap intC) = true := by
  have := rowTV_fits (n := n) (f := intC) (r := Row.some m) (fun _ => rfl)
  simpa [rowTV, Row.some, TV.fits] using this
theorem takeI_walk {σ : TS} {l : Nat} {s : RSt} (hl : σ[l]? = some (.cells (rC s.1 s.2))) (hr : s.1.length ≤ 100000) : TDoes Try.prog 164 [.ptr l 0, .func (.func 115) [.ptr l 0] []] σ (rowTV intC (rowOf (tk intR s).1)) (rAt σ l (tk intR s).2) := by
  have hlt := lt_of_get hl
  have hsame := rAt_same hl
  have hTu : ∀ x, Turned σ (rAt σ l x) := fun x => Turned.set (Turned.refl _) rfl
  have hv := rV2_le s
  have a0 := ru16_at hlt hr [] (s' := rS 2 s) (v := rV 2 s) rfl rfl
  rw [hsame] at a0
  simp only [List.append_nil] at a0
  have hr0 : (rS 2 s).1.length ≤ 100000 := by have := rS_le 2 s; omega
  have hfl : ∀ m : List Int, (m.flatMap intC).length = m.length * 1 := fun m => flat_lenT (f := intC) (k := 1) (fun _ => rfl) m
  skip
  obtain ⟨qa, qx, hq⟩ : ∃ qa qx, tk intR s = (qa, qx) := ⟨_, _, rfl⟩
  have hq0 : (qa, qx) = ([] ++ (tkN intR (rV 2 s).toNat (rS 2 s)).1, (tkN intR (rV 2 s).toNat (rS 2 s)).2) := hq.symm
  rw [hq]
  clear hq
  refine does_of [22] [.tmp 4] Try.func164 (by kernel_rfl) rfl (by kernel_rfl) fun X hR hN => ?_
  show Tw _ _ _ _ ([some _, some _] ++ List.replicate 22 none) _
  simp only [List.replicate, List.cons_append, List.nil_append]
  have FK := zdum; have FD := zdum; have FL := zdum; have dA := @a0
  refine walk ?_
  (repeat' first | exact Lv.nil | apply Lv.cons) <;> (intros; clear dA FL FD FK)
  refine T_each (α := Nat × RSt × (List Int) × TV × TS) (fun (n, x, acc, lv, ρ) => [some (some (.ptr l 0)), some (some (.func (.func 115) [.ptr l 0] [])), none, none, none, some (some (lv)), some (some (.int .i64 n)), none, none, none, none, none, none, none, none, none, none, none, none, none, none, none, none, none]) (fun (n, x, acc, lv, ρ) => (qa, qx) = (acc ++ (tkN intR n x).1, (tkN intR n x).2) ∧ x.1.length ≤ 100000 ∧ acc.length + n ≤ 65535 ∧ ((acc = [] ∧ lv = .nils ∧ ρ = []) ∨ (acc ≠ [] ∧ lv = .sl (some (σ.length, acc.length)) acc.length (acc.flatMap intC) ∧ ρ = [.right acc.length 1]))) (fun (n, x, acc, lv, ρ) => n) (fun (n, x, acc, lv, ρ) => rAt σ l x ++ ρ) ?_ ?_
  · refine ⟨((rV 2 s).toNat, rS 2 s, [], .nils, []), ⟨rfl, rfl, rfl, ?_, trivial⟩, ⟨hq0, hr0, ?_, .inl ⟨rfl, rfl, rfl⟩⟩, ?_⟩
    · show some (TV.int .i64 (rV 2 s)) = some (.int .i64 (((rV 2 s).toNat : Nat) : Int))
      rw [Int.toNat_of_nonneg hv.1]
    · simp only [List.length_nil]; omega
    · simp only [List.append_nil]
  · rintro ⟨n, x, acc, lv, ρ⟩ q ⟨hk, hx, hlen, hsh⟩
    show Tw _ _ _ _ ([some (.ptr l 0), some (.func (.func 115) [.ptr l 0] []), q 2, q 3, q 4, some (lv), some (.int .i64 n), q 7, q 8, q 9, q 10, q 11, q 12, q 13, q 14, q 15, q 16, q 17, q 18, q 19, q 20, q 21, q 22, q 23]) (rAt σ l x ++ ρ)
    have herr := err_at (s := x) hlt ρ
    by_cases hgo : n = 0 ∨ x.2 ≠ 0
    · have hk2 : qa = acc ∧ qx = x := by
        rcases hgo with rfl | he
        · rw [tkN] at hk; simpa using hk
        · rw [tkN_err he] at hk; simpa using hk
      obtain ⟨rfl, rfl⟩ := hk2
      rcases hsh with ⟨rfl, rfl, rfl⟩ | ⟨h1, rfl, rfl⟩
      · simp only [List.append_nil] at herr ⊢
        rcases hgo with rfl | he
        · have FK := zdum; have FD := zdum; have FL := zdum; have cA := @herr
          refine walk ?_
          (repeat' first | exact Lv.nil | apply Lv.cons) <;> (intros; clear cA FL FD FK)
          all_goals rfl
        · have FK := @he; have FD := zdum; have FL := zdum; have cA := @herr
          refine walk ?_
          (repeat' first | exact Lv.nil | apply Lv.cons) <;> (intros; clear cA FL FD FK)
          all_goals rfl
      · rw [rowOf_some _ h1] at *
        rcases hgo with rfl | he
        · have FK := zdum; have FD := zdum; have FL := zdum; have cA := @herr
          refine walk ?_
          (repeat' first | exact Lv.nil | apply Lv.cons) <;> (intros; clear cA FL FD FK)
        · have FK := @he; have FD := zdum; have FL := zdum; have cA := @herr
          refine walk ?_
          (repeat' first | exact Lv.nil | apply Lv.cons) <;> (intros; clear cA FL FD FK)
    · obtain ⟨m, rfl⟩ : ∃ m, n = m + 1 := ⟨n - 1, by omega⟩
      have he : x.2 = 0 := by omega
      rw [tkN_ok he] at hk
      obtain ⟨x', ex⟩ : ∃ x', x' = (intR x).2 := ⟨_, rfl⟩
      obtain ⟨v, ev⟩ : ∃ v, v = (intR x).1 := ⟨_, rfl⟩
      rw [← ex, ← ev] at hk
      have hx' : x'.1.length ≤ 100000 := by rw [ex]; exact Nat.le_trans (rS_le 2 x) hx
      have a1 : ∀ ρ, TDoes Try.prog 115 [.ptr l 0] (rAt σ l x ++ ρ) (.int .i64 v) (rAt σ l x' ++ ρ) := fun ρ => ru16_at hlt hx ρ ex ev
      have happ : ∀ (k : Nat) (w : Bool), k = acc.length → tappend (mkTab Try.prog) w (rAt σ l x' ++ [.right k 1]) 22 22 (.sl (some (σ.length, k)) k (acc.flatMap intC)) (.sl none 1 [.int .i64 v]) = some (.sl (some (σ.length, k + 1)) (k + 1) (acc.flatMap intC ++ [.int .i64 v]), rAt σ l x' ++ [.right (k + 1) 1]) := fun k w ek => by
        rw [app1I (by rw [rAt_app0]; rfl) (by rw [hfl, ek]) (by omega), rAt_setapp0]; rfl
      clear ex ev
      rcases hsh with ⟨rfl, rfl, rfl⟩ | ⟨h1, rfl, rfl⟩
      · have a1 := a1 []
        simp only [List.append_nil] at a1 herr ⊢
        have FK := @he; have FD := @app0I; have FL := zdum; have cA := @herr; have dA := @a1
        refine walk ?_
        (repeat' first | exact Lv.nil | apply Lv.cons) <;> (intros; clear dA cA FL FD FK)
        refine ⟨(m, x', [v], .sl (some (σ.length, 1)) 1 [.int .i64 v], [.right 1 1]), ?_, ⟨rfl, rfl, rfl, ?_, trivial⟩, ⟨by simpa using hk, hx', ?_, .inr ⟨by simp, rfl, rfl⟩⟩, rfl⟩
        · dsimp only; omega
        · rw [show ((m + 1 : Nat) : Int) - 1 = (m : Int) by omega]
        · simp only [List.length_cons, List.length_nil] at hlen ⊢; omega
      · have FK := @he; have FD := @happ; have FL := zdum; have cA := @herr; have dA := @a1
        refine walk ?_
        (repeat' first | exact Lv.nil | apply Lv.cons) <;> (intros; clear dA cA FL FD FK)
        refine ⟨(m, x', acc ++ [v], .sl (some (σ.length, acc.length + 1)) (acc.length + 1) (acc.flatMap intC ++ [.int .i64 v]), [.right (acc.length + 1) 1]), ?_, ⟨rfl, rfl, rfl, ?_, trivial⟩, ⟨by simpa using hk, hx', ?_, .inr ⟨by simp, ?_, ?_⟩⟩, rfl⟩
        · dsimp only; omega
        · rw [show ((m + 1 : Nat) : Int) - 1 = (m : Int) by omega]
        · rw [List.length_append, List.length_singleton]; omega
        · rw [List.length_append, List.length_singleton, List.flatMap_append]; rfl
        · rw [List.length_append, List.length_singleton]

theorem winR_le (s : RSt) : (winR s).2.1.length ≤ s.1.length := Nat.le_trans (rS_le _ _) (Nat.le_trans (rS_le _ _) (rS_le _ _))
theorem window_at {σ : TS} {l p : Nat} {x x' : RSt} {v : Win} {bad : Int} (hlt : l < σ.length) (hpr : p < σ.length) (hpl : p ≠ l) (hp : σ[p]? = some (.cells [.ptr l 0, .int .i64 bad])) (hx : x.1.length ≤ 100000) (ρ : TS) (ex : x' = (winR x).2) (ev : v = (winR x).1) :
    TDoes Try.prog 167 [.ptr p 0] (rAt σ l x ++ ρ) (.agg (winC v)) (rAt σ l x' ++ ρ) := by
  have := window11_walk (σ := rAt σ l x ++ ρ) (s := x) (bad := bad) (p := p) (by rw [List.getElem?_append_left (by rw [rAt_len]; exact hlt)]; exact rAt_l hlt) (by rw [List.getElem?_append_left (by rw [rAt_len]; exact hpr), rAt_p hpl]; exact hp) hx
  rw [ex, ev]
  exact rAt_rAt (s' := (winR x).2) (ρ := ρ) hlt ▸ this

/- W -/
section
variable {σ : TS} {w : Bool} {tk n : Nat} {cs : List TV} {x : Win}
theorem app0W : tappend (mkTab Try.prog) true σ 23 23 .nils (.sl none 1 (winC x)) = some (.sl (some (σ.length, 1)) 1 (winC x), σ ++ [.right 1 3]) :=
  app_nil tab23 rfl tab44 rfl rfl (src_sl (σ := σ) (own := none) (cs := (winC x)) (n := 1) (sz := 3) tab23 rfl rfl) rfl rfl (by decide) (by decide) (by decide)
theorem app1W (hr : σ[tk]? = some (.right n 3)) (hn : cs.length = n * 3) (hb : n ≤ 1000000) :
    tappend (mkTab Try.prog) w σ 23 23 (.sl (some (tk, n)) n cs) (.sl none 1 (winC x)) = some (.sl (some (tk, n + 1)) (n + 1) (cs ++ (winC x)), σ.set tk (.right (n + 1) 3)) :=
  app_own (w := w) tab23 rfl tab44 rfl rfl (src_sl (σ := σ) (own := none) (cs := (winC x)) (n := 1) (sz := 3) tab23 rfl rfl) rfl rfl hr hn (by show (n + 1) * 24 ≤ _; omega) (by omega)
end
theorem bsW (σ : TS) (x : Win) : tbuildSlice (mkTab Try.prog) false σ 23 1 [(0, .agg (winC x))] = some (.sl none 1 (winC x), σ) := by
  have hz : rowZero [TV.int .i64 0, TV.int .i64 0, TV.int .i64 0] 3 = [TV.int .i64 0, TV.int .i64 0, TV.int .i64 0] := rfl
  unfold tbuildSlice
  simp only [tab23, tab44, TV.cells, hz, Nat.reduceMul, Nat.reducePow, Nat.reduceLeDiff, ne_eq, reduceCtorEq, not_false_eq_true, and_self, if_true, tfill, splice, List.take_zero, List.take_succ_cons, List.drop_zero, List.drop_succ_cons, List.length_cons, List.length_nil, Nat.reduceAdd, Nat.zero_add, List.nil_append, List.cons_append, List.all_cons, List.all_nil, TV.one, Bool.and_self, tright, Bool.false_eq_true, if_false, Nat.zero_mul, Nat.one_mul]
@[go_sem] theorem flatFitsW (n : Nat) (m : List Win) : TV.fitsL n (m.flatMap winC) = true := by
  have := rowTV_fits (n := n) (f := winC) (r := Row.some m) (fun _ => rfl)
  simpa [rowTV, Row.some, TV.fits] using this
theorem takeW_walk {σ : TS} {l p : Nat} {s : RSt} {bad : Int} (hp : σ[p]? = some (.cells [.ptr l 0, .int .i64 bad])) (hl : σ[l]? = some (.cells (rC s.1 s.2))) (hr : s.1.length ≤ 100000) : TDoes Try.prog 166 [.ptr l 0, .func (.func 167) [.ptr p 0] []] σ (rowTV winC (rowOf (tk winR s).1)) (rAt σ l (tk winR s).2) := by
  have hlt := lt_of_get hl
  have hsame := rAt_same hl
  have hTu : ∀ x, Turned σ (rAt σ l x) := fun x => Turned.set (Turned.refl _) rfl
  have hv := rV2_le s
  have a0 := ru16_at hlt hr [] (s' := rS 2 s) (v := rV 2 s) rfl rfl
  rw [hsame] at a0
  simp only [List.append_nil] at a0
  have hr0 : (rS 2 s).1.length ≤ 100000 := by have := rS_le 2 s; omega
  have hfl : ∀ m : List Win, (m.flatMap winC).length = m.length * 3 := fun m => flat_lenT (f := winC) (k := 3) (fun _ => rfl) m
  have hpl : p ≠ l := fun e => by subst e; rw [hl] at hp; cases hp
  have hpr := lt_of_get hp
  have hgp : ∀ x ρ, (rAt σ l x ++ ρ)[p]? = some (.cells [.ptr l 0, .int .i64 bad]) := fun x ρ => by rw [List.getElem?_append_left (by rw [rAt_len]; exact hpr), rAt_p hpl]; exact hp
  obtain ⟨qa, qx, hq⟩ : ∃ qa qx, tk winR s = (qa, qx) := ⟨_, _, rfl⟩
  have hq0 : (qa, qx) = ([] ++ (tkN winR (rV 2 s).toNat (rS 2 s)).1, (tkN winR (rV 2 s).toNat (rS 2 s)).2) := hq.symm
  rw [hq]
  clear hq
  refine does_of [22] [.tmp 4] Try.func166 (by kernel_rfl) rfl (by kernel_rfl) fun X hR hN => ?_
  show Tw _ _ _ _ ([some _, some _] ++ List.replicate 22 none) _
  simp only [List.replicate, List.cons_append, List.nil_append]
  have FK := zdum; have FD := zdum; have FL := zdum; have dA := @a0
  refine walk ?_
  (repeat' first | exact Lv.nil | apply Lv.cons) <;> (intros; clear dA FL FD FK)
  refine T_each (α := Nat × RSt × (List Win) × TV × TS) (fun (n, x, acc, lv, ρ) => [some (some (.ptr l 0)), some (some (.func (.func 167) [.ptr p 0] [])), none, none, none, some (some (lv)), some (some (.int .i64 n)), none, none, none, none, none, none, none, none, none, none, none, none, none, none, none, none, none]) (fun (n, x, acc, lv, ρ) => (qa, qx) = (acc ++ (tkN winR n x).1, (tkN winR n x).2) ∧ x.1.length ≤ 100000 ∧ acc.length + n ≤ 65535 ∧ ((acc = [] ∧ lv = .nils ∧ ρ = []) ∨ (acc ≠ [] ∧ lv = .sl (some (σ.length, acc.length)) acc.length (acc.flatMap winC) ∧ ρ = [.right acc.length 3]))) (fun (n, x, acc, lv, ρ) => n) (fun (n, x, acc, lv, ρ) => rAt σ l x ++ ρ) ?_ ?_
  · refine ⟨((rV 2 s).toNat, rS 2 s, [], .nils, []), ⟨rfl, rfl, rfl, ?_, trivial⟩, ⟨hq0, hr0, ?_, .inl ⟨rfl, rfl, rfl⟩⟩, ?_⟩
    · show some (TV.int .i64 (rV 2 s)) = some (.int .i64 (((rV 2 s).toNat : Nat) : Int))
      rw [Int.toNat_of_nonneg hv.1]
    · simp only [List.length_nil]; omega
    · simp only [List.append_nil]
  · rintro ⟨n, x, acc, lv, ρ⟩ q ⟨hk, hx, hlen, hsh⟩
    show Tw _ _ _ _ ([some (.ptr l 0), some (.func (.func 167) [.ptr p 0] []), q 2, q 3, q 4, some (lv), some (.int .i64 n), q 7, q 8, q 9, q 10, q 11, q 12, q 13, q 14, q 15, q 16, q 17, q 18, q 19, q 20, q 21, q 22, q 23]) (rAt σ l x ++ ρ)
    have herr := err_at (s := x) hlt ρ
    by_cases hgo : n = 0 ∨ x.2 ≠ 0
    · have hk2 : qa = acc ∧ qx = x := by
        rcases hgo with rfl | he
        · rw [tkN] at hk; simpa using hk
        · rw [tkN_err he] at hk; simpa using hk
      obtain ⟨rfl, rfl⟩ := hk2
      rcases hsh with ⟨rfl, rfl, rfl⟩ | ⟨h1, rfl, rfl⟩
      · simp only [List.append_nil] at herr ⊢
        rcases hgo with rfl | he
        · have FK := zdum; have FD := zdum; have FL := zdum; have cA := @herr
          refine walk ?_
          (repeat' first | exact Lv.nil | apply Lv.cons) <;> (intros; clear cA FL FD FK)
          all_goals rfl
        · have FK := @he; have FD := zdum; have FL := zdum; have cA := @herr
          refine walk ?_
          (repeat' first | exact Lv.nil | apply Lv.cons) <;> (intros; clear cA FL FD FK)
          all_goals rfl
      · rw [rowOf_some _ h1] at *
        rcases hgo with rfl | he
        · have FK := zdum; have FD := zdum; have FL := zdum; have cA := @herr
          refine walk ?_
          (repeat' first | exact Lv.nil | apply Lv.cons) <;> (intros; clear cA FL FD FK)
        · have FK := @he; have FD := zdum; have FL := zdum; have cA := @herr
          refine walk ?_
          (repeat' first | exact Lv.nil | apply Lv.cons) <;> (intros; clear cA FL FD FK)
    · obtain ⟨m, rfl⟩ : ∃ m, n = m + 1 := ⟨n - 1, by omega⟩
      have he : x.2 = 0 := by omega
      rw [tkN_ok he] at hk
      obtain ⟨x', ex⟩ : ∃ x', x' = (winR x).2 := ⟨_, rfl⟩
      obtain ⟨v, ev⟩ : ∃ v, v = (winR x).1 := ⟨_, rfl⟩
      rw [← ex, ← ev] at hk
      have hx' : x'.1.length ≤ 100000 := by rw [ex]; exact Nat.le_trans (winR_le x) hx
      have a1 : ∀ ρ, TDoes Try.prog 167 [.ptr p 0] (rAt σ l x ++ ρ) (.agg (winC v)) (rAt σ l x' ++ ρ) := fun ρ => window_at hlt hpr hpl hp hx ρ ex ev
      have happ : ∀ (k : Nat) (w : Bool), k = acc.length → tappend (mkTab Try.prog) w (rAt σ l x' ++ [.right k 3]) 23 23 (.sl (some (σ.length, k)) k (acc.flatMap winC)) (.sl none 1 (winC v)) = some (.sl (some (σ.length, k + 1)) (k + 1) (acc.flatMap winC ++ (winC v)), rAt σ l x' ++ [.right (k + 1) 3]) := fun k w ek => by
        rw [app1W (by rw [rAt_app0]; rfl) (by rw [hfl, ek]) (by omega), rAt_setapp0]; rfl
      clear ex ev
      rcases hsh with ⟨rfl, rfl, rfl⟩ | ⟨h1, rfl, rfl⟩
      · have a1 := a1 []
        simp only [List.append_nil] at a1 herr ⊢
        have FK := @he; have FD := And.intro @bsW (@app0W); have FL := zdum; have cA := @herr; have dA := @a1
        refine walk ?_
        (repeat' first | exact Lv.nil | apply Lv.cons) <;> (intros; clear dA cA FL FD FK)
        refine ⟨(m, x', [v], .sl (some (σ.length, 1)) 1 (winC v), [.right 1 3]), ?_, ⟨rfl, rfl, rfl, ?_, trivial⟩, ⟨by simpa using hk, hx', ?_, .inr ⟨by simp, rfl, rfl⟩⟩, rfl⟩
        · dsimp only; omega
        · rw [show ((m + 1 : Nat) : Int) - 1 = (m : Int) by omega]
        · simp only [List.length_cons, List.length_nil] at hlen ⊢; omega
      · have FK := @he; have FD := And.intro @bsW (@happ); have FL := zdum; have cA := @herr; have dA := @a1
        refine walk ?_
        (repeat' first | exact Lv.nil | apply Lv.cons) <;> (intros; clear dA cA FL FD FK)
        refine ⟨(m, x', acc ++ [v], .sl (some (σ.length, acc.length + 1)) (acc.length + 1) (acc.flatMap winC ++ (winC v)), [.right (acc.length + 1) 3]), ?_, ⟨rfl, rfl, rfl, ?_, trivial⟩, ⟨by simpa using hk, hx', ?_, .inr ⟨by simp, ?_, ?_⟩⟩, rfl⟩
        · dsimp only; omega
        · rw [show ((m + 1 : Nat) : Int) - 1 = (m : Int) by omega]
        · rw [List.length_append, List.length_singleton]; omega
        · rw [List.length_append, List.length_singleton, List.flatMap_append]; rfl
        · rw [List.length_append, List.length_singleton]
end Go.Proofs.Ytgkcackpffimmaa
