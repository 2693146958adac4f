/- What config's window and link compute, over the heap in which they note what they saw. -/
import Derived.Test.YtbhhmnfjjnnkiaaGreatF1
set_option linter.unusedVariables false
set_option linter.unusedSimpArgs false
set_option maxRecDepth 10000
set_option maxHeartbeats 2000000
namespace Go.Proofs.YtbhhmnfjjnnkiaaGreat
open Go.TM

abbrev kI (n : Int) : TV := .int .i64 n
theorem kI_law : KeyLaw (mkTab Tryz.prog) 3 kI where
  eq a b := by simp [teqIn, tab3, teq1, kI]; by_cases h : a = b <;> simp [h]
  same a := by simp [beqP, beqA, kI]
  key a := by simp [tkey, tab3, kI]

@[go_sem] theorem fitsI {n : Nat} (l : List (Int × Int × Nat)) : ((mEnt kI kI l).all fun e => TV.fits n e.key && TV.fits n e.val) = true := by
  rw [List.all_eq_true]
  intro e he
  obtain ⟨x, hx, rfl⟩ := List.mem_map.1 he
  rfl
@[go_sem] theorem fitsL {n : Nat} (l : List (Int × Link × Nat)) : ((mEnt kI linkTV l).all fun e => TV.fits n e.key && TV.fits n e.val) = true := by
  rw [List.all_eq_true]
  intro e he
  obtain ⟨x, hx, rfl⟩ := List.mem_map.1 he
  simp only [linkTV, linkC, TV.fits, TV.fitsL, row_fits, Bool.and_self]

/-- Where the last windows of the hosts end. -/
def overs (c : Cfg) : Nat → List (Int × Int × Nat) × Nat
  | 0 => ([], 0)
  | i + 1 => (mPut (overs c i).1 (overs c i).2 (nth c.parts.l (nth c.wins.l i).part.toNat) ((nth c.wins.l i).begin_ + (nth c.wins.l i).long), mClock (overs c i).1 (overs c i).2 (nth c.parts.l (nth c.wins.l i).part.toNat))

theorem overs_get (c : Cfg) (h : Int) : ∀ i, (mGet (overs c i).1 h).getD 0 = endOf c h i
  | 0 => rfl
  | i + 1 => by
    rw [overs, mGet_put, endOf]
    split
    · rename_i e
      rw [if_pos e.symm]; rfl
    · rename_i e
      rw [if_neg fun e2 => e e2.symm, overs_get c h i]

theorem lookI {σ : TS} {lm c : Nat} {l : List (Int × Int × Nat)} (hm : σ[lm]? = some (.map (mEnt kI kI l) c)) (ρ : TS) (a : Int) :
    tlookup (mkTab Tryz.prog) (σ ++ ρ) 39 (.map lm) (.int .i64 a) false = some (.int .i64 ((mGet l a).getD 0)) := by
  rw [mapLook (kf := kI) (vf := kI) tab39 rfl tab3 rfl kI_law (by rw [get_old (lt_of_get hm)]; exact hm)]
  cases mGet l a <;> rfl
theorem putI {σ : TS} {lm c : Nat} {l : List (Int × Int × Nat)} (hm : σ[lm]? = some (.map (mEnt kI kI l) c)) (ρ : TS) (a v : Int) :
    tmapUpdate (mkTab Tryz.prog) (σ ++ ρ) 39 (.map lm) (.int .i64 a) (.int .i64 v) = some (σ.set lm (.map (mEnt kI kI (mPut l c a v)) (mClock l c a)) ++ ρ) := by
  rw [mapPut (kf := kI) (vf := kI) (v := v) tab39 rfl kI_law (by rw [get_old (lt_of_get hm)]; exact hm), set_old (lt_of_get hm)]

theorem window_walk (c : Cfg) (l lm lo : Nat) (i : Nat) (σ : TS) (hc : c.ok) (hn : σ[l]? = some (.cells (netC c lm))) (ho : σ[lo]? = some (.map (mEnt kI kI (overs c i).1) (overs c i).2)) (hi : i < c.wins.l.length)
    (hi2 : i ≤ 9223372036854775000) (hM : 1 ≤ c.major ∧ c.major ≤ 1073741824) (hp : ∀ k, k < i → winS c k = 0) :
    TDoes Tryz.prog 33 [.ptr l 0, .int .i64 i, .map lo] σ (.int .i64 (winS c i)) (if winS c i = 0 then σ.set lo (.map (mEnt kI kI (overs c (i + 1)).1) (overs c (i + 1)).2) else σ) := by
  have hw := hc.wins _ (nth_mem hi)
  obtain ⟨⟨w1, w2⟩, ⟨w3, w4⟩, ⟨w5, w6⟩⟩ := hw
  have hl := lt_of_get hn
  have hlo := lt_of_get ho
  have hlook := lookI ho
  have hput := putI ho
  have hlp := hc.lparts
  refine does_of [] [.tmp 6] Tryz.func33 (by kernel_rfl) rfl (by kernel_rfl) fun X hR hN => ?_
  show Tw _ _ _ _ ([some _, some _, some _] ++ List.replicate 70 none) _
  simp only [List.replicate, List.cons_append, List.nil_append]
  have FK := @hn; have FD := And.intro @hlook (@hput); have FL := zdum; have cA := @between_walk; have cB := @part_walk
  refine walk ?_
  (repeat' first | exact Lv.nil | apply Lv.cons) <;> (intros; clear cB cA FL FD FK)
  all_goals try (rw [winS_off (by omega)]; done)
  all_goals try (rw [winS_off (by omega), if_neg (by decide)]; done)
  all_goals
    have hne : ¬ (256 ≤ i ∨ ¬ IsPart c (nth c.wins.l i).part ∨ (nth c.wins.l i).begin_ < 0 ∨ (nth c.wins.l i).long < 1 ∨ (nth c.wins.l i).begin_ > c.major ∨ (nth c.wins.l i).long > c.major - (nth c.wins.l i).begin_) := by omega
    have he := overs_get c (nth c.parts.l (nth c.wins.l i).part.toNat) i
    first
      | (have hz : winS c i = 25 := by rw [winS_on hne, if_pos (by omega)]
         rw [hz]; done)
      | (have hz : winS c i = 25 := by rw [winS_on hne, if_pos (by omega)]
         rw [hz, if_neg (by decide)]; done)
      | (have hz : winS c i = 0 := by rw [winS_on hne, if_neg (by omega)]
         rw [hz]; done)
      | (have hz : winS c i = 0 := by rw [winS_on hne, if_neg (by omega)]
         rw [if_pos hz]; rfl)

/-- What the links that were seen are noted as. -/
def seenL (c : Cfg) : Nat → List (Int × Link × Nat) × Nat
  | 0 => ([], 0)
  | i + 1 => (mPut (seenL c i).1 (seenL c i).2 (nth c.vls.l i).id (nth c.vls.l i), mClock (seenL c i).1 (seenL c i).2 (nth c.vls.l i).id)

theorem lookL {σ : TS} {lm c : Nat} {l : List (Int × Link × Nat)} (hm : σ[lm]? = some (.map (mEnt kI linkTV l) c)) (ρ : TS) (a : Int) :
    tlookup (mkTab Tryz.prog) (σ ++ ρ) 83 (.map lm) (.int .i64 a) true = some (match mGet l a with | some v => .tup [linkTV v, .bool true] | none => .tup [linkTV ⟨0, 0, 0, 0, false, 0, 0, Row.none⟩, .bool false]) := by
  rw [mapLook (kf := kI) (vf := linkTV) tab83 rfl tab68 rfl kI_law (by rw [get_old (lt_of_get hm)]; exact hm)]
  cases mGet l a <;> rfl
theorem putL {σ : TS} {lm c : Nat} {l : List (Int × Link × Nat)} (hm : σ[lm]? = some (.map (mEnt kI linkTV l) c)) (ρ : TS) (a : Int) (v : Link) :
    tmapUpdate (mkTab Tryz.prog) (σ ++ ρ) 83 (.map lm) (.int .i64 a) (linkTV v) = some (σ.set lm (.map (mEnt kI linkTV (mPut l c a v)) (mClock l c a)) ++ ρ) := by
  rw [mapPut (kf := kI) (vf := linkTV) (v := v) tab83 rfl kI_law (by rw [get_old (lt_of_get hm)]; exact hm), set_old (lt_of_get hm)]

/-- The closure that asks whether a host may not be among those to which a link goes. -/
theorem linkbad_walk (c : Cfg) (l lm b1 b2 : Nat) (v : Link) (h : Int) (σ : TS) (hn : σ[l]? = some (.cells (netC c lm))) (h1 : σ[b1]? = some (.cells [.ptr l 0])) (h2 : σ[b2]? = some (.cells (linkC v))) (hh : 1 ≤ c.hosts ∧ c.hosts ≤ 64) :
    TPure Tryz.prog 60 [.int .i64 h, .ptr b1 0, .ptr b2 0] σ (.bool (decide (¬ IsHost c h ∨ h = v.host))) := by
  refine pure_of [] [.tmp 4] Tryz.func60 (by kernel_rfl) rfl (by kernel_rfl) fun X hR hN => ?_
  show Tw _ _ _ _ ([some _, some _, some _] ++ List.replicate 12 none) _
  simp only [List.replicate, List.cons_append, List.nil_append]
  have FK := And.intro @hn (And.intro @h1 (@h2)); have FD := zdum; have FL := zdum; have cA := @host_walk
  refine walk ?_
  (repeat' first | exact Lv.nil | apply Lv.cons) <;> (intros; clear cA FL FD FK)
  all_goals (congr 1; rw [Bool.eq_iff_iff, decide_eq_true_eq]; simp only [beq_iff_eq, true_iff]; omega)

/-- Where the first one of a row is that is as asked; -1: nowhere. -/
theorem indexf_walk (r : Row Int) (k : Nat) (cs : List TV) (p : Int → Bool) (σ : TS) (hl : r.l.length ≤ 9223372036854775806) (hp : ∀ x : Int, TPure Tryz.prog k (.int .i64 x :: cs) σ (.bool (p x))) :
    ∃ n : Int, (0 ≤ n ↔ ∃ j, j < r.l.length ∧ p (nth r.l j) = true) ∧ TPure Tryz.prog 82 [rowTV intC r, .func (.func k) [] cs] σ (.int .i64 n) := by
  by_cases hx : ∃ j, j < r.l.length ∧ p (nth r.l j) = true ∧ ∀ m, m < j → p (nth r.l m) = false
  · obtain ⟨j, hj, hx, hno⟩ := hx
    refine ⟨j, ⟨fun _ => ⟨j, hj, hx⟩, fun _ => by omega⟩, ?_⟩
    refine pure_of [] [.tmp 4] Tryz.func82 (by kernel_rfl) rfl (by kernel_rfl) fun X hR hN => ?_
    show Tw _ _ _ _ ([some _, some _] ++ List.replicate 17 none) _
    simp only [List.replicate, List.cons_append, List.nil_append]
    have FK := zdum; have FD := zdum; have FL := zdum
    refine walk ?_
    (repeat' first | exact Lv.nil | apply Lv.cons) <;> (intros; clear FL FD FK)
    refine T_each (α := Nat) (fun i => [some (some (rowTV intC r)), some (some (.func (.func k) [] cs)), none, none, none, none, none, some (some (.int .i64 r.l.length)), some (some (.int .i64 i)), none, none, none, none, none, none, none, none, none, none]) (fun i => i ≤ j) (fun i => r.l.length - i) (fun i => σ) ?_ ?_
    · refine ⟨(0), ⟨rfl, rfl, rfl, rfl, trivial⟩, ?_, rfl⟩
      omega
    · rintro i q hi
      show Tw _ _ _ _ ([some (rowTV intC r), some (.func (.func k) [] cs), q 2, q 3, q 4, q 5, q 6, some (.int .i64 r.l.length), some (.int .i64 i), q 9, q 10, q 11, q 12, q 13, q 14, q 15, q 16, q 17, q 18]) (σ)
      rcases Nat.lt_or_ge i j with h | h
      · have hno' := hno i h
        have FK := zdum; have FD := zdum; have FL := zdum; have cA := @hp
        refine walk ?_
        (repeat' first | exact Lv.nil | apply Lv.cons) <;> (intros; clear cA FL FD FK)
        all_goals first
          | (exfalso; simp_all; done)
          | (refine ⟨i + 1, ?_, ⟨rfl, rfl, rfl, rfl, trivial⟩, ?_, trivial⟩ <;> omega)
      · obtain rfl : i = j := by omega
        have FK := zdum; have FD := zdum; have FL := zdum; have cA := @hp
        refine walk ?_
        (repeat' first | exact Lv.nil | apply Lv.cons) <;> (intros; clear cA FL FD FK)
        all_goals first | rfl | (exfalso; simp_all; done)
  · have hno : ∀ j, j < r.l.length → p (nth r.l j) = false := by
      intro j
      induction j using Nat.strongRecOn with
      | _ j ih =>
        intro hj
        cases hq : p (nth r.l j) with
        | false => rfl
        | true => exact absurd ⟨j, hj, hq, fun m hm => ih m hm (by omega)⟩ hx
    refine ⟨-1, ⟨fun h => by omega, fun ⟨j, hj, h⟩ => by rw [hno j hj] at h; cases h⟩, ?_⟩
    refine pure_of [] [.tmp 4] Tryz.func82 (by kernel_rfl) rfl (by kernel_rfl) fun X hR hN => ?_
    show Tw _ _ _ _ ([some _, some _] ++ List.replicate 17 none) _
    simp only [List.replicate, List.cons_append, List.nil_append]
    have FK := zdum; have FD := zdum; have FL := zdum
    refine walk ?_
    (repeat' first | exact Lv.nil | apply Lv.cons) <;> (intros; clear FL FD FK)
    refine T_each (α := Nat) (fun i => [some (some (rowTV intC r)), some (some (.func (.func k) [] cs)), none, none, none, none, none, some (some (.int .i64 r.l.length)), some (some (.int .i64 i)), none, none, none, none, none, none, none, none, none, none]) (fun i => i ≤ r.l.length) (fun i => r.l.length - i) (fun i => σ) ?_ ?_
    · refine ⟨(0), ⟨rfl, rfl, rfl, rfl, trivial⟩, ?_, rfl⟩
      omega
    · rintro i q hi
      show Tw _ _ _ _ ([some (rowTV intC r), some (.func (.func k) [] cs), q 2, q 3, q 4, q 5, q 6, some (.int .i64 r.l.length), some (.int .i64 i), q 9, q 10, q 11, q 12, q 13, q 14, q 15, q 16, q 17, q 18]) (σ)
      have hno' : i < r.l.length → p (nth r.l i) = false := hno i
      have FK := zdum; have FD := zdum; have FL := zdum; have cA := @hp
      refine walk ?_
      (repeat' first | exact Lv.nil | apply Lv.cons) <;> (intros; clear cA FL FD FK)
      all_goals first
        | rfl
        | (exfalso; simp_all; done)
        | (refine ⟨i + 1, ?_, ⟨rfl, rfl, rfl, rfl, trivial⟩, ?_, trivial⟩ <;> omega)

theorem containsf_walk (r : Row Int) (k : Nat) (cs : List TV) (p : Int → Bool) (σ : TS) (hl : r.l.length ≤ 9223372036854775806) (hp : ∀ x : Int, TPure Tryz.prog k (.int .i64 x :: cs) σ (.bool (p x))) :
    TPure Tryz.prog 59 [rowTV intC r, .func (.func k) [] cs] σ (.bool (r.l.any p)) := by
  obtain ⟨n, hn, hc⟩ := indexf_walk r k cs p σ hl hp
  refine pure_of [] [.tmp 4] Tryz.func59 (by kernel_rfl) rfl (by kernel_rfl) fun X hR hN => ?_
  show Tw _ _ _ _ ([some _, some _] ++ List.replicate 7 none) _
  simp only [List.replicate, List.cons_append, List.nil_append]
  have FK := zdum; have FD := zdum; have FL := zdum; have cA := @hc
  refine walk ?_
  (repeat' first | exact Lv.nil | apply Lv.cons) <;> (intros; clear cA FL FD FK)
  · congr 1
    rw [Bool.eq_iff_iff, decide_eq_true_eq, ge_iff_le, hn, List.any_eq_true]
    constructor
    · rintro ⟨j, hj, h⟩
      exact ⟨_, nth_mem hj, h⟩
    · rintro ⟨x, hx, h⟩
      obtain ⟨j, hj, rfl⟩ := List.getElem_of_mem hx
      exact ⟨j, hj, by rw [nth_eq hj]; exact h⟩

theorem link_walk (c : Cfg) (l lm : Nat) (i : Nat) (σ : TS) (hc : c.ok) (hn : σ[l]? = some (.cells (netC c lm))) (hm : σ[lm]? = some (.map (mEnt kI linkTV (seenL c i).1) (seenL c i).2)) (hi : i < c.vls.l.length)
    (hi2 : i ≤ 9223372036854775000) (hh : 1 ≤ c.hosts ∧ c.hosts ≤ 64) (hto : (nth c.vls.l i).to.l.length ≤ 9223372036854775000) :
    TDoes Tryz.prog 34 [.ptr l 0, .int .i64 i] σ (.int .i64 (linkS c i)) (if linkS c i = 0 then σ.set lm (.map (mEnt kI linkTV (seenL c (i + 1)).1) (seenL c (i + 1)).2) else σ) := by
  have hl := lt_of_get hn
  have hlm := lt_of_get hm
  have hlook := lookL hm
  have hput := putL hm
  have hput2 : ∀ (ρ : TS) (a : Int) (v : Link), tmapUpdate (mkTab Tryz.prog) (σ ++ ρ) 83 (.map lm) (.int .i64 a) (.agg [.int .i64 v.id, .int .i64 v.host, .int .i64 v.bag, .int .i64 v.smax, .bool v.high, .int .i64 v.subs, .int .i64 v.skew, rowTV intC v.to]) = some (σ.set lm (.map (mEnt kI linkTV (mPut (seenL c i).1 (seenL c i).2 a v)) (mClock (seenL c i).1 (seenL c i).2 a)) ++ ρ) := fun ρ a v => putL hm ρ a v
  refine does_of [] [.tmp 4] Tryz.func34 (by kernel_rfl) rfl (by kernel_rfl) fun X hR hN => ?_
  show Tw _ _ _ _ ([some _, some _] ++ List.replicate 107 none) _
  simp only [List.replicate, List.cons_append, List.nil_append]
  have hpred : ((i : Int) - 1).toNat = i - 1 := by omega
  have FK := And.intro @hn (@hpred); have FD := And.intro @hlook (@hput2); have FL := zdum; have cA := @between_walk; have cB := @host_walk
  refine walk ?_
  (repeat' first | exact Lv.nil | apply Lv.cons) <;> (intros; clear cB cA FL FD FK)
  all_goals try (rw [linkS_off (by omega)]; done)
  all_goals try (rw [linkS_off (by omega), if_neg (by decide)]; done)
  all_goals try (rw [linkS_order (by omega) ⟨by omega, by assumption⟩]; done)
  all_goals try (rw [linkS_order (by omega) ⟨by omega, by assumption⟩, if_neg (by decide)]; done)
  all_goals
    have hoff : ¬ (256 ≤ i ∨ LinkOff c (nth c.vls.l i)) := by omega
    have hord : ¬ (0 < i ∧ (nth c.vls.l (i - 1)).id ≥ (nth c.vls.l i).id) := by omega
    have hlen : 1 ≤ (nth c.vls.l i).to.l.length := by omega
    have hcut : ((nth c.vls.l i).to.cut 1 (nth c.vls.l i).to.l.length).l.length = (nth c.vls.l i).to.l.length - 1 := by simp [Row.cut]
    have hbad : ∀ ρ, TPure Tryz.prog 59 [rowTV intC (nth c.vls.l i).to, .func (.func 60) [] [.ptr σ.length 0, .ptr (σ.length + 1) 0]] (σ ++ (.cells [.ptr l 0] :: .cells (linkC (nth c.vls.l i)) :: ρ)) (.bool ((nth c.vls.l i).to.l.any fun h => decide (¬ IsHost c h ∨ h = (nth c.vls.l i).host))) := fun ρ =>
      containsf_walk _ _ _ _ _ (by omega) fun x => linkbad_walk c l lm _ _ _ x _ (Eq.trans (get_old hl) hn) (by simp) (by rw [get_app]; rfl) hh
    refine T_each (α := Nat) (fun k => [none, none, some (some (.ptr σ.length 0)), none, none, some (some (.ptr (σ.length + 1) 0)), none, none, none, none, none, none, none, none, none, none, none, none, none, none, none, none, none, none, none, none, none, none, none, none, none, none, none, none, none, none, none, none, none, none, none, none, none, none, none, none, none, none, none, none, none, none, none, none, none, none, none, none, none, none, none, none, none, none, none, none, none, none, none, none, none, none, none, none, none, none, none, none, none, none, none, some (some (.int .i64 ((nth c.vls.l i).to.cut 1 (nth c.vls.l i).to.l.length).l.length)), some (some (.int .i64 k)), none, none, none, none, none, none, none, none, none, none, none, none, none, none, none, none, none, none, none, none, none, none, none, none, none, none]) (fun k => k ≤ (nth c.vls.l i).to.l.length - 1 ∧ (∀ j, j < k → nth (nth c.vls.l i).to.l j < nth (nth c.vls.l i).to.l (j + 1))) (fun k => (nth c.vls.l i).to.l.length - k) (fun k => σ ++ [.cells [.ptr l 0], .cells (linkC (nth c.vls.l i))]) ?_ ?_
    · refine ⟨(0), ⟨rfl, rfl, rfl, rfl, trivial⟩, ?_, rfl⟩
      exact ⟨by omega, fun j hj => by omega⟩
    · rintro k q ⟨hk, hup⟩
      show Tw _ _ _ _ ([q 0, q 1, some (.ptr σ.length 0), q 3, q 4, some (.ptr (σ.length + 1) 0), q 6, q 7, q 8, q 9, q 10, q 11, q 12, q 13, q 14, q 15, q 16, q 17, q 18, q 19, q 20, q 21, q 22, q 23, q 24, q 25, q 26, q 27, q 28, q 29, q 30, q 31, q 32, q 33, q 34, q 35, q 36, q 37, q 38, q 39, q 40, q 41, q 42, q 43, q 44, q 45, q 46, q 47, q 48, q 49, q 50, q 51, q 52, q 53, q 54, q 55, q 56, q 57, q 58, q 59, q 60, q 61, q 62, q 63, q 64, q 65, q 66, q 67, q 68, q 69, q 70, q 71, q 72, q 73, q 74, q 75, q 76, q 77, q 78, q 79, q 80, some (.int .i64 ((nth c.vls.l i).to.cut 1 (nth c.vls.l i).to.l.length).l.length), some (.int .i64 k), q 83, q 84, q 85, q 86, q 87, q 88, q 89, q 90, q 91, q 92, q 93, q 94, q 95, q 96, q 97, q 98, q 99, q 100, q 101, q 102, q 103, q 104, q 105, q 106, q 107, q 108]) (σ ++ [.cells [.ptr l 0], .cells (linkC (nth c.vls.l i))])
      have hks : ((k : Int) + 1).toNat = k + 1 := by omega
      have FK := And.intro @hn (@hks); have FD := @hput2; have FL := zdum; have cA := @hbad; have eA : Eord 16 [(0, 1), (1, 0), (2, 0), (3, 1), (4, 0), (5, 1), (6, 1), (7, 2)] := ⟨trivial⟩
      refine walk ?_
      (repeat' first | exact Lv.nil | apply Lv.cons) <;> (intros; clear eA cA FL FD FK)
      all_goals try
        have hz : linkS c i = 25 := linkS_rise hoff hord (k := k) (by omega) (by assumption)
        first | (rw [hz]; done) | (rw [if_neg (by rw [hz]; decide)]; done)
      all_goals try
        refine ⟨k + 1, ?_, ⟨rfl, rfl, rfl, rfl, trivial⟩, ⟨?_, upto hup (by assumption)⟩, trivial⟩ <;> omega
      all_goals
        have hris : Rises (nth c.vls.l i).to.l := fun j hj => hup j (by omega)
        first
          | (have h1 : ((nth c.vls.l i).to.l.any fun h => decide (¬ IsHost c h ∨ h = (nth c.vls.l i).host)) = true := by assumption
             obtain ⟨x, hx, hxx⟩ := List.any_eq_true.1 h1
             obtain ⟨j, hj, rfl⟩ := List.getElem_of_mem hx
             rw [decide_eq_true_eq, ← nth_eq hj] at hxx
             have hz : linkS c i = 20 := linkS_to hoff hord hris hj hxx
             first | (rw [hz]; done) | (rw [if_neg (by rw [hz]; decide)]; done))
          | (have h1 : ((nth c.vls.l i).to.l.any fun h => decide (¬ IsHost c h ∨ h = (nth c.vls.l i).host)) = false := by assumption
             have hz : linkS c i = 0 := linkS_ok hoff hord hris fun j hj => by
               have := List.any_eq_false.1 h1 _ (nth_mem hj)
               simpa only [decide_eq_true_eq] using this
             first | (rw [hz]; done) | (rw [if_pos hz]; rfl))

end Go.Proofs.YtbhhmnfjjnnkiaaGreat
