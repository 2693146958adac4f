/- The image's loader: the list of ports. -/
import Derived.Test.YtgkcackpffimmaaI13
set_option linter.unusedVariables false
set_option linter.unusedSimpArgs false
set_option maxRecDepth 10000
set_option maxHeartbeats 4000000
namespace Go.Proofs.Ytgkcackpffimmaa
open Go.TM

/-- The heap, the loader told that a number was wrong or not. -/
def sg (σ : TS) (l p : Nat) (b : Bool) : TS := if b then σ.set p (.cells [.ptr l 0, .int .i64 1]) else σ
theorem sg_no {σ : TS} {l p : Nat} : sg σ l p false = σ := rfl
theorem sg_yes {σ : TS} {l p : Nat} : sg σ l p true = σ.set p (.cells [.ptr l 0, .int .i64 1]) := rfl
@[go_sem] theorem sg_len {σ : TS} {l p : Nat} {b : Bool} : (sg σ l p b).length = σ.length := by cases b <;> simp [sg]
section
variable {σ : TS} {l l' p : Nat} {b : Bool} {x : RSt} {ρ : TS} {k : Nat} {o : TObj}
@[go_sem] theorem sgA0 : (rAt (sg σ l p b) l' x ++ ρ)[σ.length]? = ρ[0]? := by have := rAt_app0 (σ := sg σ l p b) (l := l') (s := x) (ρ := ρ); rwa [sg_len] at this
@[go_sem] theorem sgA : (rAt (sg σ l p b) l' x ++ ρ)[σ.length + k]? = ρ[k]? := by have := rAt_app (σ := sg σ l p b) (l := l') (s := x) (ρ := ρ) (k := k); rwa [sg_len] at this
@[go_sem] theorem sgS0 : (rAt (sg σ l p b) l' x ++ ρ).set σ.length o = rAt (sg σ l p b) l' x ++ ρ.set 0 o := by have := rAt_setapp0 (σ := sg σ l p b) (l := l') (s := x) (ρ := ρ) (o := o); rwa [sg_len] at this
@[go_sem] theorem sgS : (rAt (sg σ l p b) l' x ++ ρ).set (σ.length + k) o = rAt (sg σ l p b) l' x ++ ρ.set k o := by have := rAt_setapp (σ := sg σ l p b) (l := l') (s := x) (ρ := ρ) (k := k) (o := o); rwa [sg_len] at this
end
theorem port10_le (s : RSt) : (port10 s).1.length ≤ s.1.length := by
  unfold port10
  iterate 9 (refine Nat.le_trans (rS_le _ _) ?_)
  exact rS_le _ _
theorem portR_le (s : RSt) : (portR s).2.1.length ≤ s.1.length := by
  unfold portR
  split
  · simp
  · exact port10_le s
def badN : Nat → RSt → Bool
  | 0, _ => false
  | n + 1, s => if s.2 ≠ 0 then false else if TooFresh s then true else badN n (portR s).2
theorem badN_err {n : Nat} {s : RSt} (h : s.2 ≠ 0) : badN n s = false := by
  cases n with
  | zero => rfl
  | succ n => rw [badN, if_pos h]
theorem badN_ok {n : Nat} {s : RSt} (h : s.2 = 0) : badN (n + 1) s = (decide (TooFresh s) || badN n (portR s).2) := by
  rw [badN, if_neg (by omega)]
  by_cases hq : TooFresh s
  · rw [if_pos hq, decide_eq_true hq]; rfl
  · rw [if_neg hq, decide_eq_false hq]; rfl
def badP (s : RSt) : Bool := badN (rV 2 s).toNat (rS 2 s)
theorem port_at {σ : TS} {l p : Nat} {x x' : RSt} {v : Port} {b : Bool} (hlt : l < σ.length) (hpr : p < σ.length) (hpl : p ≠ l) (hp : σ[p]? = some (.cells [.ptr l 0, .int .i64 0])) (hx : x.1.length ≤ 100000) (ρ : TS) (ex : x' = (portR x).2) (ev : v = (portR x).1) (eb : b = decide (TooFresh x)) :
    TDoes Try.prog 171 [.ptr p 0] (rAt σ l x ++ ρ) (.agg (portC v)) (rAt (sg σ l p b) l x' ++ ρ) := by
  have h1 : (rAt σ l x ++ ρ)[l]? = some (.cells (rC x.1 x.2)) := by rw [List.getElem?_append_left (by rw [rAt_len]; exact hlt)]; exact rAt_l hlt
  have h2 : (rAt σ l x ++ ρ)[p]? = some (.cells [.ptr l 0, .int .i64 0]) := by rw [List.getElem?_append_left (by rw [rAt_len]; exact hpr), rAt_p hpl]; exact hp
  rw [ex, ev, eb]
  by_cases hq : TooFresh x
  · have := port_bad h1 h2 hx hq
    rw [decide_eq_true hq, sg_yes]
    have e : rAt ((rAt σ l x ++ ρ).set p (.cells [.ptr l 0, .int .i64 1])) l (portR x).2 = rAt (σ.set p (.cells [.ptr l 0, .int .i64 1])) l (portR x).2 ++ ρ := by
      unfold rAt
      rw [List.set_append_left _ _ (by rw [List.length_set]; exact hpr), List.set_append_left _ _ (by rw [List.length_set, List.length_set]; exact hlt), List.set_comm _ _ (Ne.symm hpl), List.set_set]
    rwa [e] at this
  · have := port_fine h1 h2 hx hq
    rw [decide_eq_false hq, sg_no]
    exact rAt_rAt (s' := (portR x).2) (ρ := ρ) hlt ▸ this

/- P -/
section
variable {σ : TS} {w : Bool} {tk n : Nat} {cs : List TV} {x : Port}
theorem app0P : tappend (mkTab Try.prog) true σ 25 25 .nils (.sl none 1 (portC x)) = some (.sl (some (σ.length, 1)) 1 (portC x), σ ++ [.right 1 11]) :=
  app_nil tab25 rfl tab38 rfl rfl (src_sl (σ := σ) (own := none) (cs := (portC x)) (n := 1) (sz := 11) tab25 rfl rfl) rfl rfl (by decide) (by decide) (by decide)
theorem app1P (hr : σ[tk]? = some (.right n 11)) (hn : cs.length = n * 11) (hb : n ≤ 1000000) :
    tappend (mkTab Try.prog) w σ 25 25 (.sl (some (tk, n)) n cs) (.sl none 1 (portC x)) = some (.sl (some (tk, n + 1)) (n + 1) (cs ++ (portC x)), σ.set tk (.right (n + 1) 11)) :=
  app_own (w := w) tab25 rfl tab38 rfl rfl (src_sl (σ := σ) (own := none) (cs := (portC x)) (n := 1) (sz := 11) tab25 rfl rfl) rfl rfl hr hn (by show (n + 1) * 88 ≤ _; omega) (by omega)
end
theorem bsP (σ : TS) (x : Port) : tbuildSlice (mkTab Try.prog) false σ 25 1 [(0, .agg (portC x))] = some (.sl none 1 (portC x), σ) := by
  have hz : rowZero [TV.int .i64 0, TV.int .i64 0, TV.int .i64 0, TV.int .i64 0, TV.bool false, TV.int .i64 0, TV.int .i64 0, TV.int .i64 0, TV.int .i64 0, TV.int .i64 0, TV.int .i64 0] 11 = [TV.int .i64 0, TV.int .i64 0, TV.int .i64 0, TV.int .i64 0, TV.bool false, TV.int .i64 0, TV.int .i64 0, TV.int .i64 0, TV.int .i64 0, TV.int .i64 0, TV.int .i64 0] := rfl
  unfold tbuildSlice
  simp only [tab25, tab38, TV.cells, hz, Nat.reduceMul, Nat.reducePow, Nat.reduceLeDiff, ne_eq, reduceCtorEq, not_false_eq_true, and_self, if_true, tfill, splice, List.take_zero, List.take_succ_cons, List.drop_zero, List.drop_succ_cons, List.length_cons, List.length_nil, Nat.reduceAdd, Nat.zero_add, List.nil_append, List.cons_append, List.all_cons, List.all_nil, TV.one, Bool.and_self, tright, Bool.false_eq_true, if_false, Nat.zero_mul, Nat.one_mul]
@[go_sem] theorem flatFitsP (n : Nat) (m : List Port) : TV.fitsL n (m.flatMap portC) = true := by
  have := rowTV_fits (n := n) (f := portC) (r := Row.some m) (fun _ => rfl)
  simpa [rowTV, Row.some, TV.fits] using this

theorem takeP_walk {σ : TS} {l p : Nat} {s : RSt} (hp : σ[p]? = some (.cells [.ptr l 0, .int .i64 0])) (hl : σ[l]? = some (.cells (rC s.1 s.2))) (hr : s.1.length ≤ 100000) : TDoes Try.prog 170 [.ptr l 0, .func (.func 171) [.ptr p 0] []] σ (rowTV portC (rowOf (tk portR s).1)) (rAt (sg σ l p (badP s)) l (tk portR s).2) := by
  have hlt := lt_of_get hl
  have hsame := rAt_same hl
  have hpl : p ≠ l := fun e => by subst e; rw [hl] at hp; cases hp
  have hpr := lt_of_get hp
  have hTu : ∀ b x, Turned σ (rAt (sg σ l p b) l x) := fun b x => by
    cases b
    · exact Turned.set (Turned.refl _) rfl
    · exact Turned.set (Turned.set (Turned.refl _) (by simp [TObj.fits, TV.fits, TV.fitsL, hlt])) rfl
  have hv := rV2_le s
  have a0 := ru16_at hlt hr [] (s' := rS 2 s) (v := rV 2 s) rfl rfl
  rw [hsame] at a0
  simp only [List.append_nil] at a0
  have hr0 : (rS 2 s).1.length ≤ 100000 := by have := rS_le 2 s; omega
  have hfl : ∀ m : List Port, (m.flatMap portC).length = m.length * 11 := fun m => flat_lenT (f := portC) (k := 11) (fun _ => rfl) m
  obtain ⟨qa, qx, hq⟩ : ∃ qa qx, tk portR s = (qa, qx) := ⟨_, _, rfl⟩
  obtain ⟨qb, hqb⟩ : ∃ qb, qb = badP s := ⟨_, rfl⟩
  have hq0 : (qa, qx) = ([] ++ (tkN portR (rV 2 s).toNat (rS 2 s)).1, (tkN portR (rV 2 s).toNat (rS 2 s)).2) := hq.symm
  have hqb0 : qb = (false || badN (rV 2 s).toNat (rS 2 s)) := hqb
  rw [hq, ← hqb]
  clear hq hqb
  refine does_of [22] [.tmp 4] Try.func170 (by kernel_rfl) rfl (by kernel_rfl) fun X hR hN => ?_
  show Tw _ _ _ _ ([some _, some _] ++ List.replicate 22 none) _
  simp only [List.replicate, List.cons_append, List.nil_append]
  have FK := zdum; have FD := zdum; have FL := zdum; have dA := @a0
  refine walk ?_
  (repeat' first | exact Lv.nil | apply Lv.cons) <;> (intros; clear dA FL FD FK)
  refine T_each (α := Nat × RSt × (List Port) × TV × TS × Bool) (fun (n, x, acc, lv, ρ, b) => [some (some (.ptr l 0)), some (some (.func (.func 171) [.ptr p 0] [])), none, none, none, some (some (lv)), some (some (.int .i64 n)), none, none, none, none, none, none, none, none, none, none, none, none, none, none, none, none, none]) (fun (n, x, acc, lv, ρ, b) => (qa, qx) = (acc ++ (tkN portR n x).1, (tkN portR n x).2) ∧ qb = (b || badN n x) ∧ (b = true → x.2 ≠ 0) ∧ x.1.length ≤ 100000 ∧ acc.length + n ≤ 65535 ∧ ((acc = [] ∧ lv = .nils ∧ ρ = []) ∨ (acc ≠ [] ∧ lv = .sl (some (σ.length, acc.length)) acc.length (acc.flatMap portC) ∧ ρ = [.right acc.length 11]))) (fun (n, x, acc, lv, ρ, b) => n) (fun (n, x, acc, lv, ρ, b) => rAt (sg σ l p b) l x ++ ρ) ?_ ?_
  · refine ⟨((rV 2 s).toNat, rS 2 s, [], .nils, [], false), ⟨rfl, rfl, rfl, ?_, trivial⟩, ⟨hq0, hqb0, fun h => (by cases h), hr0, ?_, .inl ⟨rfl, rfl, rfl⟩⟩, ?_⟩
    · show some (TV.int .i64 (rV 2 s)) = some (.int .i64 (((rV 2 s).toNat : Nat) : Int))
      rw [Int.toNat_of_nonneg hv.1]
    · simp only [List.length_nil]; omega
    · simp only [List.append_nil]; rfl
  · rintro ⟨n, x, acc, lv, ρ, b⟩ q ⟨hk, hkb, hbe, hx, hlen, hsh⟩
    show Tw _ _ _ _ ([some (.ptr l 0), some (.func (.func 171) [.ptr p 0] []), q 2, q 3, q 4, some (lv), some (.int .i64 n), q 7, q 8, q 9, q 10, q 11, q 12, q 13, q 14, q 15, q 16, q 17, q 18, q 19, q 20, q 21, q 22, q 23]) (rAt (sg σ l p b) l x ++ ρ)
    have herr := err_at (σ := sg σ l p b) (s := x) (l := l) (by rw [sg_len]; exact hlt) ρ
    by_cases hgo : n = 0 ∨ x.2 ≠ 0
    · have hk2 : (qa = acc ∧ qx = x) ∧ qb = b := by
        rcases hgo with rfl | he
        · rw [tkN] at hk; rw [badN, Bool.or_false] at hkb; exact ⟨by simpa using hk, hkb⟩
        · rw [tkN_err he] at hk; rw [badN_err he, Bool.or_false] at hkb; exact ⟨by simpa using hk, hkb⟩
      obtain ⟨⟨rfl, rfl⟩, rfl⟩ := hk2
      rcases hsh with ⟨rfl, rfl, rfl⟩ | ⟨h1, rfl, rfl⟩
      · simp only [List.append_nil] at herr ⊢
        rcases hgo with rfl | he
        · have FK := zdum; have FD := zdum; have FL := zdum; have cA := @herr
          refine walk ?_
          (repeat' first | exact Lv.nil | apply Lv.cons) <;> (intros; clear cA FL FD FK)
          all_goals rfl
        · have FK := @he; have FD := zdum; have FL := zdum; have cA := @herr
          refine walk ?_
          (repeat' first | exact Lv.nil | apply Lv.cons) <;> (intros; clear cA FL FD FK)
          all_goals rfl
      · rw [rowOf_some _ h1] at *
        rcases hgo with rfl | he
        · have FK := zdum; have FD := zdum; have FL := zdum; have cA := @herr
          refine walk ?_
          (repeat' first | exact Lv.nil | apply Lv.cons) <;> (intros; clear cA FL FD FK)
        · have FK := @he; have FD := zdum; have FL := zdum; have cA := @herr
          refine walk ?_
          (repeat' first | exact Lv.nil | apply Lv.cons) <;> (intros; clear cA FL FD FK)
    · obtain ⟨m, rfl⟩ : ∃ m, n = m + 1 := ⟨n - 1, by omega⟩
      have he : x.2 = 0 := by omega
      obtain rfl : b = false := by
        cases b
        · rfl
        · exact absurd he (hbe rfl)
      rw [tkN_ok he] at hk
      rw [badN_ok he] at hkb
      obtain ⟨x', ex⟩ : ∃ x', x' = (portR x).2 := ⟨_, rfl⟩
      obtain ⟨v, ev⟩ : ∃ v, v = (portR x).1 := ⟨_, rfl⟩
      obtain ⟨b', eb⟩ : ∃ b', b' = decide (TooFresh x) := ⟨_, rfl⟩
      rw [← ex, ← ev] at hk
      rw [← ex, ← eb, Bool.false_or] at hkb
      have hx' : x'.1.length ≤ 100000 := by rw [ex]; exact Nat.le_trans (portR_le x) hx
      have hbe' : b' = true → x'.2 ≠ 0 := fun h => by
        have hq : TooFresh x := by simpa [eb] using h
        rw [ex, portR, if_pos hq]; show (10 : Int) ≠ 0; decide
      have a1 : ∀ ρ, TDoes Try.prog 171 [.ptr p 0] (rAt σ l x ++ ρ) (.agg (portC v)) (rAt (sg σ l p b') l x' ++ ρ) := fun ρ => port_at hlt hpr hpl hp hx ρ ex ev eb
      have happ : ∀ (k : Nat) (w : Bool), k = acc.length → tappend (mkTab Try.prog) w (rAt (sg σ l p b') l x' ++ [.right k 11]) 25 25 (.sl (some (σ.length, k)) k (acc.flatMap portC)) (.sl none 1 (portC v)) = some (.sl (some (σ.length, k + 1)) (k + 1) (acc.flatMap portC ++ (portC v)), rAt (sg σ l p b') l x' ++ [.right (k + 1) 11]) := fun k w ek => by
        rw [app1P (by rw [sgA0]; rfl) (by rw [hfl, ek]) (by omega), sgS0]; rfl
      clear ex ev eb hbe
      simp only [sg_no] at herr ⊢
      rcases hsh with ⟨rfl, rfl, rfl⟩ | ⟨h1, rfl, rfl⟩
      · have a1 := a1 []
        simp only [List.append_nil] at a1 herr ⊢
        have FK := @he; have FD := And.intro @bsP (@app0P); have FL := zdum; have cA := @herr; have dA := @a1
        refine walk ?_
        (repeat' first | exact Lv.nil | apply Lv.cons) <;> (intros; clear dA cA FL FD FK)
        refine ⟨(m, x', [v], .sl (some (σ.length, 1)) 1 (portC v), [.right 1 11], b'), ?_, ⟨rfl, rfl, rfl, ?_, trivial⟩, ⟨by simpa using hk, hkb, hbe', hx', ?_, .inr ⟨by simp, rfl, rfl⟩⟩, rfl⟩
        · dsimp only; omega
        · rw [show ((m + 1 : Nat) : Int) - 1 = (m : Int) by omega]
        · simp only [List.length_cons, List.length_nil] at hlen ⊢; omega
      · have FK := @he; have FD := And.intro @bsP (@happ); have FL := zdum; have cA := @herr; have dA := @a1
        refine walk ?_
        (repeat' first | exact Lv.nil | apply Lv.cons) <;> (intros; clear dA cA FL FD FK)
        refine ⟨(m, x', acc ++ [v], .sl (some (σ.length, acc.length + 1)) (acc.length + 1) (acc.flatMap portC ++ (portC v)), [.right (acc.length + 1) 11], b'), ?_, ⟨rfl, rfl, rfl, ?_, trivial⟩, ⟨by simpa using hk, hkb, hbe', hx', ?_, .inr ⟨by simp, ?_, ?_⟩⟩, rfl⟩
        · dsimp only; omega
        · rw [show ((m + 1 : Nat) : Int) - 1 = (m : Int) by omega]
        · rw [List.length_append, List.length_singleton]; omega
        · rw [List.length_append, List.length_singleton, List.flatMap_append]; rfl
        · rw [List.length_append, List.length_singleton]
end Go.Proofs.Ytgkcackpffimmaa
