/- Frames that are remembered: each, copied, passed (ranges over a function). -/
import Derived.Test.YtkmcbaihemaoeaaGreatT60
import Derived.Test.YtkmcbaihemaoeaaGreatQ2
set_option linter.unusedVariables false
set_option linter.unusedSimpArgs false
set_option maxRecDepth 10000
set_option maxHeartbeats 4000000
namespace Go.Proofs.YtkmcbaihemaoeaaGreat
open Go.TM

/-- Frames that are remembered, as a row of one's own (or none). -/
def FrV (v : TV) (n : Nat) (l o : Nat) : Prop := (v = .nils ∧ n = 0) ∨ v = .rs l o n 3
theorem FrV.len {v : TV} {n l o : Nat} (h : FrV v n l o) : tlenOp (mkTab Tryz.prog) 439 v = some (.int .i64 n) := by
  rcases h with ⟨rfl, rfl⟩ | rfl <;> simp [tlenOp, tab439]
theorem FrV.ix {v : TV} {n l o : Nat} (h : FrV v n l o) {i : Nat} (hi : i < n) : tindexAddr (mkTab Tryz.prog) 439 v (.int .i64 i) = some (.rp l (o + i * 3)) := by
  rcases h with ⟨rfl, rfl⟩ | rfl
  · omega
  · simp only [tindexAddr, tab439, tab519]
    rw [if_pos ⟨by omega, by omega⟩]
    simp
theorem each_walk {x p n l o : Nat} {v a b c d e : TV} (hv : FrV v n l o) (hn : n ≤ 1000000) (τ : Nat → TS) (hx : ∀ i, i ≤ n → (τ i)[x]? = some (.cells [v, a, b, c, d, e])) (I : Nat → Prop) (hI0 : I 0) (Stop : TS → Prop)
    (hy : ∀ i, i < n → I i → TYields Tryz.prog p [.rp l (o + i * 3)] (τ i) fun tv t => (tv = .bool true ∧ I (i + 1) ∧ t = τ (i + 1)) ∨ (tv = .bool false ∧ Stop t)) :
    TCalls Tryz.prog 372 [.ptr x 0, .yl p] (τ 0) fun _ t => (I n ∧ t = τ n) ∨ Stop t := by
  have h0 := hx 0 (by omega)
  have hl := hv.len
  refine calls_of [] [] Tryz.func372 (by kernel_rfl) rfl (by kernel_rfl) fun X hR hN => ?_
  show Tw _ _ _ _ ([some _, some _] ++ List.replicate 21 none) _
  simp only [List.replicate, List.cons_append, List.nil_append]
  have FK := @h0; have FD := @hl; have FL := zdum
  refine walk ?_
  (repeat' first | exact Lv.nil | apply Lv.cons) <;> (intros; clear FL FD FK)
  refine T_each (α := Nat) (fun i => [some (some (.ptr x 0)), some (some (.yl p)), none, none, none, none, none, none, none, some (some (.int .i64 n)), some (some (.int .i64 i)), none, none, none, none, none, none, none, none, none, none, none, none]) (fun i => i ≤ n ∧ I i) (fun i => n - i) (fun i => τ i) ?_ ?_
  · refine ⟨(0), ⟨rfl, rfl, rfl, rfl, trivial⟩, ?_, rfl⟩
    exact ⟨by omega, hI0⟩
  · rintro i q ⟨hi, hIi⟩
    show Tw _ _ _ _ ([some (.ptr x 0), some (.yl p), q 2, q 3, q 4, q 5, q 6, q 7, q 8, some (.int .i64 n), some (.int .i64 i), q 11, q 12, q 13, q 14, q 15, q 16, q 17, q 18, q 19, q 20, q 21, q 22]) (τ i)
    rcases Nat.lt_or_ge i n with hlt | hge
    · have hxi := hx i hi
      have hix := hv.ix hlt
      have hyi := hy i hlt hIi
      have FK := @hxi; have FD := @hix; have FL := zdum
      refine walk ?_
      (repeat' first | exact Lv.nil | apply Lv.cons) <;> (intros; clear FL FD FK)
      refine WL_do fun Cw cw => ?_
      refine O_yield rfl rfl ?_
      refine hyi.mono ?_
      rintro u t (⟨rfl, hI1, rfl⟩ | ⟨rfl, hs⟩)
      · (with_reducible apply cw); (focus ((try simp only [tput, List.set_cons_zero, List.set_cons_succ]); exact rfl)); clear cw Cw
        have FK := zdum; have FD := zdum; have FL := zdum
        refine walk ?_
        (repeat' first | exact Lv.nil | apply Lv.cons) <;> (intros; clear FL FD FK)
        refine ⟨(i + 1), ?_, ⟨rfl, rfl, rfl, rfl, trivial⟩, ?_, (by first | rfl | trivial)⟩
        all_goals (try dsimp only)
        all_goals (first | omega | exact ⟨by omega, hI1⟩)
      · (with_reducible apply cw); (focus ((try simp only [tput, List.set_cons_zero, List.set_cons_succ]); exact rfl)); clear cw Cw
        have FK := zdum; have FD := zdum; have FL := zdum
        refine walk ?_
        (repeat' first | exact Lv.nil | apply Lv.cons) <;> (intros; clear FL FD FK)
        exact .inr hs
    · obtain rfl : i = n := by omega
      have FK := zdum; have FD := zdum; have FL := zdum
      refine walk ?_
      (repeat' first | exact Lv.nil | apply Lv.cons) <;> (intros; clear FL FD FK)
      exact .inl ⟨hIi, by first | rfl | trivial⟩

/-- A frame that went through. -/
structure Fr where
  seq : Int
  at_ : Int
  nets : Int
deriving Inhabited, DecidableEq
abbrev frmC (x : Fr) : List TV := [.int .i64 x.seq, .int .i64 x.at_, .int .u64 x.nets]
/-- The frames that are remembered: in a row of one's own, from a place on. -/
def FilR (σ : TS) (v : TV) (l o : Nat) (pre : List TV) (fs : List Fr) : Prop :=
  (v = .nils ∧ fs = []) ∨ (v = .rs l o fs.length 3 ∧ σ[l]? = some (.row (pre ++ fs.flatMap frmC)) ∧ pre.length = o ∧ ∀ n, TV.fitsL n pre = true)
theorem FilR.v {σ : TS} {v : TV} {l o : Nat} {pre : List TV} {fs : List Fr} (h : FilR σ v l o pre fs) : FrV v fs.length l o := by
  rcases h with ⟨rfl, rfl⟩ | ⟨h, _⟩
  · exact .inl ⟨rfl, rfl⟩
  · exact .inr h
theorem frmC_len (fs : List Fr) : (fs.flatMap frmC).length = fs.length * 3 := flat_length (k := 3) (fun _ => rfl) fs
theorem fr_cells {τ : TS} {l o : Nat} {pre : List TV} {fs : List Fr} (hr : τ[l]? = some (.row (pre ++ fs.flatMap frmC))) (ho : pre.length = o) {i : Nat} (hi : i < fs.length) (k : Nat) (hk : k < 3) :
    tcells τ (.rp l (o + i * 3 + k)) = some ((frmC (nth fs i) ++ (fs.drop (i + 1)).flatMap frmC).drop k) := by
  simp only [tcells, hr]
  congr 1
  rw [Nat.add_assoc, List.drop_append, List.drop_of_length_le (by omega), ho, Nat.add_sub_cancel_left, List.nil_append, ← List.drop_drop, flat_drop (k := 3) (fun _ => rfl) hi]
theorem frmC_fits (n : Nat) (fs : List Fr) : TV.fitsL n (fs.flatMap frmC) = true := by
  have := rowTV_fits (n := n) (f := frmC) (r := Row.some fs) (fun _ => rfl)
  simpa [rowTV, Row.some, TV.fits] using this
theorem fitsL_append {n : Nat} : ∀ {a b : List TV}, TV.fitsL n a = true → TV.fitsL n b = true → TV.fitsL n (a ++ b) = true
  | [], _, _, k => k
  | x :: xs, _, h, k => by
    simp only [TV.fitsL, List.cons_append, Bool.and_eq_true] at h ⊢
    exact ⟨h.1, fitsL_append h.2 k⟩
theorem splice3 {A R : List TV} {m : Nat} {a b c y : TV} (h : A.length = m) : splice (A ++ ([a, b, c] ++ R)) (m + 2) [y] = A ++ ([a, b, y] ++ R) := by
  subst h
  simp only [splice, List.take_append, List.drop_append, List.length_singleton, Nat.add_sub_cancel_left, List.cons_append, List.nil_append, List.take_succ_cons, List.take_zero]
  rw [show A.length + 2 + 1 - A.length = 3 by omega, List.take_of_length_le (by omega), List.drop_of_length_le (by omega)]
  simp
theorem fr_load {σ : TS} {l o : Nat} {pre : List TV} {fs : List Fr} (hr : σ[l]? = some (.row (pre ++ fs.flatMap frmC))) (ho : pre.length = o) {i : Nat} (hi : i < fs.length) (ρ : TS) :
    tload (mkTab Tryz.prog) (σ ++ ρ) 3 (.rp l (o + i * 3)) = some (.int .i64 (nth fs i).seq) ∧ tload (mkTab Tryz.prog) (σ ++ ρ) 240 (.rp l (o + i * 3 + 2)) = some (.int .u64 (nth fs i).nets) := by
  have hr' : (σ ++ ρ)[l]? = some (.row (pre ++ fs.flatMap frmC)) := by rw [get_old (lt_of_get hr)]; exact hr
  have h0 := fr_cells hr' ho hi 0 (by omega)
  have h2 := fr_cells hr' ho hi 2 (by omega)
  rw [Nat.add_zero] at h0
  constructor
  · simp [tload, h0, tpart, tab3, TK.isAgg]
  · simp [tload, h2, tpart, tab240, TK.isAgg]
theorem fr_store {σ : TS} {l o : Nat} {pre : List TV} {fs : List Fr} (hr : σ[l]? = some (.row (pre ++ fs.flatMap frmC))) (ho : pre.length = o) {i : Nat} (hi : i < fs.length) (n : Int) (ρ : TS) :
    tstore (mkTab Tryz.prog) (σ ++ ρ) 240 (.rp l (o + i * 3 + 2)) (.int .u64 n) = some (σ.set l (.row (pre ++ (fs.set i { nth fs i with nets := n }).flatMap frmC)) ++ ρ) := by
  have hl := lt_of_get hr
  have hr' : (σ ++ ρ)[l]? = some (.row (pre ++ fs.flatMap frmC)) := by rw [get_old hl]; exact hr
  have hlen := frmC_len fs
  have e : splice (pre ++ fs.flatMap frmC) (o + i * 3 + 2) [.int .u64 n] = pre ++ (fs.set i { nth fs i with nets := n }).flatMap frmC := by
    have h1 : fs = fs.take i ++ nth fs i :: fs.drop (i + 1) := by rw [nth_eq hi, List.getElem_cons_drop, List.take_append_drop]
    have h2 : fs.set i { nth fs i with nets := n } = fs.take i ++ { nth fs i with nets := n } :: fs.drop (i + 1) := by rw [List.set_eq_take_append_cons_drop, if_pos hi]
    have h3 : (fs.take i).flatMap frmC ++ (frmC (nth fs i) ++ (fs.drop (i + 1)).flatMap frmC) = fs.flatMap frmC := by
      conv => rhs; rw [h1]
      rw [List.flatMap_append, List.flatMap_cons]
    have h4 : ((fs.take i).flatMap frmC).length = i * 3 := by rw [frmC_len, List.length_take, Nat.min_eq_left (by omega)]
    rw [h2, List.flatMap_append, List.flatMap_cons, ← h3, splice]
    have h5 : (pre ++ (fs.take i).flatMap frmC).length = o + i * 3 := by rw [List.length_append, h4, ho]
    rw [← List.append_assoc, ← List.append_assoc pre]
    exact splice3 h5
  simp only [tstore, tab240, hr']
  rw [if_pos ⟨rfl, by show o + i * 3 + 2 + 1 ≤ (pre ++ fs.flatMap frmC).length; rw [List.length_append, frmC_len, ho]; omega, rfl⟩, set_old hl, show (TV.int IntKind.u64 n).cells = [.int .u64 n] from rfl, e]
/-- What a bit of a number is. -/
def bitOn (nets net : Int) : Bool := decide (iand .u64 (ishr .u64 nets net) 1 = 1)
/-- The frame of which one is a copy. -/
def isCopy (net seq : Int) (x : Fr) : Bool := decide (x.seq = seq) && !bitOn x.nets net
def copyIx (net seq : Int) (fs : List Fr) : Option Nat := fs.findIdx? (isCopy net seq)
def hasSeq (seq : Int) (fs : List Fr) : Bool := fs.any fun x => decide (x.seq = seq)
theorem hasSeq_take {seq : Int} {fs : List Fr} {i : Nat} (hi : i < fs.length) : hasSeq seq (fs.take (i + 1)) = (hasSeq seq (fs.take i) || decide ((nth fs i).seq = seq)) := by
  unfold hasSeq
  rw [List.take_succ_eq_append_getElem hi, List.any_append, nth_eq hi]; simp
/-- The number that is told of frames so far. -/
def toldE (seq : Int) (fs : List Fr) (i : Nat) : Int := if hasSeq seq (fs.take i) then 25 else 0
theorem FilR.pre {σ : TS} {v : TV} {l o : Nat} {pre : List TV} {fs : List Fr} (h : FilR σ v l o pre fs) {net seq : Int} {i : Nat} (hi : copyIx net seq fs = some i) (n : Nat) : TV.fitsL n pre = true := by
  rcases h with ⟨_, rfl⟩ | ⟨_, _, _, h⟩
  · cases hi
  · exact h n
theorem copied_walk {σ : TS} {x l o : Nat} {v a b c d e : TV} {pre : List TV} {fs : List Fr} (hx : σ[x]? = some (.cells [v, a, b, c, d, e])) (hr : FilR σ v l o pre fs) (hn : fs.length ≤ 1000000) (net seq : Int) (hnet : 0 ≤ net ∧ net ≤ 1) :
    TCalls Tryz.prog 353 [.ptr x 0, .int .i64 net, .int .i64 seq] σ fun u τ =>
      (copyIx net seq fs = none ∧ u = .int .i64 (if hasSeq seq fs then 25 else 0) ∧ τ = σ) ∨ ∃ i, copyIx net seq fs = some i ∧ u = .int .i64 21 ∧ τ = σ.set l (.row (pre ++ (fs.set i { nth fs i with nets := 3 }).flatMap frmC)) := by
  have hxl := lt_of_get hx
  refine TCalls.trim (Q := fun u s => ∃ τ ρ, s = τ ++ ρ ∧ ((copyIx net seq fs = none ∧ u = .int .i64 (if hasSeq seq fs then 25 else 0) ∧ τ = σ) ∨ ∃ i, copyIx net seq fs = some i ∧ u = .int .i64 21 ∧ τ = σ.set l (.row (pre ++ (fs.set i { nth fs i with nets := 3 }).flatMap frmC))))
    (mark_of [.cell 6 34] (fn := Tryz.f353) Tryz.func353 (by kernel_rfl) rfl (by kernel_rfl) fun F hF => ?_) ?_
  · show SatM _ _ _ ([some _, some _, some _] ++ List.replicate 30 none) _
    simp only [List.replicate, List.cons_append, List.nil_append]
    refine SatM.step (wn := []) ?_
    have FK := zdum; have FD := zdum; have FL := zdum
    refine walk ?_
    (repeat' first | exact Lv.nil | apply Lv.cons) <;> (intros; clear FL FD FK)
    refine SatM.step (wn := []) ?_
    have FK := zdum; have FD := zdum; have FL := zdum
    refine walk ?_
    (repeat' first | exact Lv.nil | apply Lv.cons) <;> (intros; clear FL FD FK)
    refine SatM.seq ?_
    refine SatM.step (wn := []) ?_
    have FK := zdum; have FD := zdum; have FL := zdum
    refine walk ?_
    (repeat' first | exact Lv.nil | apply Lv.cons) <;> (intros; clear FL FD FK)
    refine SatM.ranged (wn := []) (Ik := ∀ j, j < fs.length → isCopy net seq (nth fs j) = false) (Hk := σ ++ [.cells [.int .i64 net], .cells [.int .i64 seq], .cells [.int .i64 0], .cells [.int .i64 (toldE seq fs fs.length)]])
      (S := fun y τ => y = .ret ∧ ∃ i k, copyIx net seq fs = some i ∧ τ = σ.set l (.row (pre ++ (fs.set i { nth fs i with nets := 3 }).flatMap frmC)) ++ [.cells [.int .i64 net], .cells [.int .i64 seq], .cells [.int .i64 21], .cells [.int .i64 k]]) ?_ (fun y τ h => h.1) (fun hI r => ?_) (fun τ' r h => ?_)
    · refine SatM.rangeFunc (E := 372) (first := [.ptr x 0]) (captured := []) ?_ ?_ fs.length (fun i => [.rp l (o + i * 3)]) ?_
        (fun i => ∀ j, j < i → isCopy net seq (nth fs j) = false) (fun j hj => absurd hj (Nat.not_lt_zero _)) (fun i => σ ++ [.cells [.int .i64 net], .cells [.int .i64 seq], .cells [.int .i64 0], .cells [.int .i64 (toldE seq fs i)]]) ?_ ?_ _ ?_ ?_ ?_ ?_ ?_
      · exact ⟨_, Tryz.func372, by kernel_rfl, by kernel_rfl⟩
      · rfl
      · exact fun i _ => rfl
      · simp [toldE, hasSeq]
      · exact fun i _ => by simp
      · exact fun y τ h => ⟨by obtain ⟨_, i, k, _, rfl⟩ := h; simp, .inl h.1⟩
      · intro r rx hy
        refine (each_walk (a := a) (b := b) (c := c) (d := d) (e := e) (I := fun i => ∀ j, j < i → isCopy net seq (nth fs j) = false) (hI0 := fun j hj => absurd hj (Nat.not_lt_zero _)) (Stop := fun τ => ∃ y τ', (y = TX.ret ∧ ∃ i k, copyIx net seq fs = some i ∧ τ' = σ.set l (.row (pre ++ (fs.set i { nth fs i with nets := 3 }).flatMap frmC)) ++ [.cells [.int .i64 net], .cells [.int .i64 seq], .cells [.int .i64 21], .cells [.int .i64 k]]) ∧ τ = τ' ++ RR _ (rx y)) hr.v hn _ (fun i hi => ?_) hy).mono fun _ t h => h
        rw [List.append_assoc, get_old hxl]; exact hx
      · rfl
      · rfl
      · intro i r hi hI
        have hcase : fs ≠ [] := fun e => by rw [e] at hi; cases hi
        rcases hr with ⟨_, rfl⟩ | ⟨rfl, hrow, hpre, hfit⟩
        · exact absurd rfl hcase
        simp only [RR, List.append_assoc, List.cons_append, List.nil_append]
        refine Sat.of (wn := []) (Tw.go ?_)
        show Tw _ _ _ _ ([some _, some _, some _, none, some _, some _, some _, some _, none, some _, some _, some _] ++ List.replicate 21 none) _
        simp only [List.replicate, List.cons_append, List.nil_append]
        have FK := zdum; have FD := zdum; have FL := zdum
        refine walk ?_
        (repeat' first | exact Lv.nil | apply Lv.cons) <;> (intros; clear FL FD FK)
        refine ⟨by first | rfl | trivial, by first | rfl | trivial, fun r' => Sat.of (wn := []) (Tw.go ?_)⟩
        have hl0 := fun ρ => (fr_load hrow hpre hi ρ).1
        have hl2 := fun ρ => (fr_load hrow hpre hi ρ).2
        have hst := fun n ρ => fr_store hrow hpre hi n ρ
        rw [Nat.add_assoc] at hl2 hst
        have FK := @wrapU64_of; have FD := And.intro @hl0 (And.intro @hl2 (@hst)); have FL := zdum
        refine walk ?_
        (repeat' first | exact Lv.nil | apply Lv.cons) <;> (intros; clear FL FD FK)
        · have hne : (nth fs i).seq ≠ seq := by assumption
          have hcp : isCopy net seq (nth fs i) = false := by simp [isCopy, hne]
          refine .inl ⟨by first | rfl | trivial, fun j hj => ?_, ?_⟩
          · rcases Nat.lt_or_ge j i with h1 | h1
            · exact hI j h1
            · rwa [show j = i by omega]
          · have : toldE seq fs (i + 1) = toldE seq fs i := by unfold toldE; rw [hasSeq_take hi, decide_eq_false hne, Bool.or_false]
            rw [this]
        · have heq : (nth fs i).seq = seq := by omega
          have hbit : iand .u64 (ishr .u64 (nth fs i).nets net) 1 = 1 := by assumption
          have hcp : isCopy net seq (nth fs i) = false := by simp [isCopy, bitOn, hbit]
          refine .inl ⟨by first | rfl | trivial, fun j hj => ?_, ?_⟩
          · rcases Nat.lt_or_ge j i with h1 | h1
            · exact hI j h1
            · rwa [show j = i by omega]
          · have : toldE seq fs (i + 1) = 25 := by unfold toldE; rw [hasSeq_take hi, decide_eq_true heq, Bool.or_true]; rfl
            rw [this]
        · have heq : (nth fs i).seq = seq := by omega
          have hbit : ¬ iand .u64 (ishr .u64 (nth fs i).nets net) 1 = 1 := by assumption
          have hcp : isCopy net seq (nth fs i) = true := by simp [isCopy, bitOn, hbit, heq]
          refine .inr ⟨_, ⟨by first | rfl | trivial, i, toldE seq fs i, ?_, rfl⟩, by simp⟩
          rw [copyIx, List.findIdx?_eq_some_iff_getElem]
          refine ⟨hi, by rw [← nth_eq hi]; exact hcp, fun j hj => ?_⟩
          rw [← nth_eq (show j < fs.length by omega), hI j hj]; simp
    · simp only [RR, List.append_assoc, List.cons_append, List.nil_append]
      replace hF := Hid.mk hF
      have FK := zdum; have FD := zdum; have FL := zdum
      refine walk ?_
      (repeat' first | exact Lv.nil | apply Lv.cons) <;> (intros; clear FL FD FK)
      rw [show (σ ++ [TObj.cells [.int .i64 net], .cells [.int .i64 seq], .cells [.int .i64 0], .cells [.int .i64 0]]).length = σ.length + 4 by simp]
      refine hF.go _ _ _ _ (.int .i64 (toldE seq fs fs.length)) (.inr rfl) (by rw [get_app]; rfl) (by simp [tresults, tresultL, tresult1, tload, tcells, tpart, tab34, TK.isAgg, ev, get_app, get_app_1]) ⟨σ, _, by rw [set_app], .inl ⟨?_, ?_, rfl⟩⟩
      · rw [copyIx, List.findIdx?_eq_none_iff]
        intro f hf
        obtain ⟨j, hj, rfl⟩ := List.getElem_of_mem hf
        rw [← nth_eq hj]; exact hI j hj
      · rw [toldE, List.take_length]
    · obtain ⟨_, i, k, hc, rfl⟩ := h
      simp only [RR, List.append_assoc, List.cons_append, List.nil_append]
      rw [show (σ ++ [TObj.cells [.int .i64 net], .cells [.int .i64 seq], .cells [.int .i64 0], .cells [.int .i64 0]]).length = σ.length + 4 by simp]
      refine hF _ _ _ _ (.int .i64 21) (.inr rfl) (by rw [get_app_1]; rfl) (by simp [tresults, tresultL, tresult1, tload, tcells, tpart, tab34, TK.isAgg, ev, get_app, get_app_1]) ⟨_, _, by rw [set_app_1], .inr ⟨i, hc, rfl, rfl⟩⟩
  · rintro u s ⟨τ, ρ, rfl, h⟩
    rcases h with ⟨h1, rfl, rfl⟩ | ⟨i, h1, rfl, rfl⟩
    · exact ⟨τ, ρ, rfl, rfl, fun l => .inl rfl, rfl, .inl ⟨h1, rfl, rfl⟩⟩
    · refine ⟨_, ρ, rfl, List.length_set .., fun k => ?_, rfl, .inr ⟨i, h1, rfl, rfl⟩⟩
      by_cases hk : l = k
      · subst hk
        by_cases hl : l < σ.length
        · exact .inr ⟨_, List.getElem?_set_self hl, by simp only [TObj.fits]; exact fitsL_append (hr.pre h1 _) (frmC_fits _ _)⟩
        · exact .inl (by rw [List.set_eq_of_length_le (by omega)])
      · exact .inl (List.getElem?_set_ne hk)

/-- How many frames one number is behind another one. -/
def stepS (a b : Int) : Int := if 0 ≤ a ∧ a ≤ 255 ∧ 0 ≤ b ∧ b ≤ 255 ∧ b ≠ 0 then (if (b - a + 255).tmod 255 = 0 then 255 else (b - a + 255).tmod 255) else 0
theorem number_walk (n : Int) (σ : TS) : TPure Tryz.prog 345 [.int .i64 n] σ (.bool (decide (0 ≤ n ∧ n ≤ 255))) := by
  refine pure_of [] [.tmp 2] Tryz.func345 (by kernel_rfl) rfl (by kernel_rfl) fun X hR hN => ?_
  show Tw _ _ _ _ ([some _] ++ List.replicate 8 none) _
  simp only [List.replicate, List.cons_append, List.nil_append]
  have FK := zdum; have FD := zdum; have FL := zdum
  refine walk ?_
  (repeat' first | exact Lv.nil | apply Lv.cons) <;> (intros; clear FL FD FK)
  all_goals ((first | refine congrArg TV.bool (bool_eq ?_) | refine bool_eq ?_); simp only [decide_eq_true_eq, Bool.false_eq_true, false_iff, true_iff]; omega)
theorem step_walk (a b : Int) (σ : TS) : TPure Tryz.prog 350 [.int .i64 a, .int .i64 b] σ (.int .i64 (stepS a b)) := by
  by_cases h1 : 0 ≤ a ∧ a ≤ 255
  · by_cases h2 : 0 ≤ b ∧ b ≤ 255
    · have hn1 := number_walk a σ
      have hn2 := number_walk b σ
      rw [decide_eq_true h1] at hn1
      rw [decide_eq_true h2] at hn2
      by_cases h3 : b = 0
      · subst h3
        rw [stepS, if_neg (by omega)]
        refine pure_of [] [.tmp 4] Tryz.func350 (by kernel_rfl) rfl (by kernel_rfl) fun X hR hN => ?_
        show Tw _ _ _ _ ([some _, some _] ++ List.replicate 24 none) _
        simp only [List.replicate, List.cons_append, List.nil_append]
        have FK := zdum; have FD := zdum; have FL := zdum; have cA := @hn1; have cB := @hn2
        refine walk ?_
        (repeat' first | exact Lv.nil | apply Lv.cons) <;> (intros; clear cB cA FL FD FK)
      · have hm : 0 ≤ (b - a + 255).tmod 255 ∧ (b - a + 255).tmod 255 < 255 := by
          rw [Int.tmod_eq_emod_of_nonneg (by omega)]; omega
        rw [stepS, if_pos ⟨h1.1, h1.2, h2.1, h2.2, h3⟩]
        by_cases h4 : (b - a + 255).tmod 255 = 0
        · rw [if_pos h4]
          refine pure_of [] [.tmp 4] Tryz.func350 (by kernel_rfl) rfl (by kernel_rfl) fun X hR hN => ?_
          show Tw _ _ _ _ ([some _, some _] ++ List.replicate 24 none) _
          simp only [List.replicate, List.cons_append, List.nil_append]
          have FK := @h4; have FD := zdum; have FL := zdum; have cA := @hn1; have cB := @hn2
          refine walk ?_
          (repeat' first | exact Lv.nil | apply Lv.cons) <;> (intros; clear cB cA FL FD FK)
        · rw [if_neg h4]
          refine pure_of [] [.tmp 4] Tryz.func350 (by kernel_rfl) rfl (by kernel_rfl) fun X hR hN => ?_
          show Tw _ _ _ _ ([some _, some _] ++ List.replicate 24 none) _
          simp only [List.replicate, List.cons_append, List.nil_append]
          have FK := @h4; have FD := zdum; have FL := zdum; have cA := @hn1; have cB := @hn2
          refine walk ?_
          (repeat' first | exact Lv.nil | apply Lv.cons) <;> (intros; clear cB cA FL FD FK)
    · have hn1 := number_walk a σ
      have hn2 := number_walk b σ
      rw [decide_eq_true h1] at hn1
      rw [decide_eq_false h2] at hn2
      rw [stepS, if_neg (by omega)]
      refine pure_of [] [.tmp 4] Tryz.func350 (by kernel_rfl) rfl (by kernel_rfl) fun X hR hN => ?_
      show Tw _ _ _ _ ([some _, some _] ++ List.replicate 24 none) _
      simp only [List.replicate, List.cons_append, List.nil_append]
      have FK := zdum; have FD := zdum; have FL := zdum; have cA := @hn1; have cB := @hn2
      refine walk ?_
      (repeat' first | exact Lv.nil | apply Lv.cons) <;> (intros; clear cB cA FL FD FK)
  · have hn1 := number_walk a σ
    rw [decide_eq_false h1] at hn1
    rw [stepS, if_neg (by omega)]
    refine pure_of [] [.tmp 4] Tryz.func350 (by kernel_rfl) rfl (by kernel_rfl) fun X hR hN => ?_
    show Tw _ _ _ _ ([some _, some _] ++ List.replicate 24 none) _
    simp only [List.replicate, List.cons_append, List.nil_append]
    have FK := zdum; have FD := zdum; have FL := zdum; have cA := @hn1
    refine walk ?_
    (repeat' first | exact Lv.nil | apply Lv.cons) <;> (intros; clear cA FL FD FK)

/-- Is a frame ahead of a number? -/
def isPast (seq : Int) (x : Fr) : Bool := decide (1 ≤ stepS seq x.seq ∧ stepS seq x.seq ≤ 127)
theorem passed_walk {σ : TS} {x l o : Nat} {v a b c d e : TV} {pre : List TV} {fs : List Fr} (hx : σ[x]? = some (.cells [v, a, b, c, d, e])) (hr : FilR σ v l o pre fs) (hn : fs.length ≤ 1000000) (seq : Int) :
    TPure Tryz.prog 354 [.ptr x 0, .int .i64 seq] σ (.bool (fs.any (isPast seq))) := by
  have hxl := lt_of_get hx
  refine TCalls.trim (Q := fun u s => ∃ ρ, s = σ ++ ρ ∧ u = .bool (fs.any (isPast seq)))
    (mark_of [.cell 4 4] (fn := Tryz.f354) Tryz.func354 (by kernel_rfl) rfl (by kernel_rfl) fun F hF => ?_) ?_
  · show SatM _ _ _ ([some _, some _] ++ List.replicate 20 none) _
    simp only [List.replicate, List.cons_append, List.nil_append]
    refine SatM.step (wn := []) ?_
    have FK := zdum; have FD := zdum; have FL := zdum
    refine walk ?_
    (repeat' first | exact Lv.nil | apply Lv.cons) <;> (intros; clear FL FD FK)
    refine SatM.seq ?_
    refine SatM.step (wn := []) ?_
    have FK := zdum; have FD := zdum; have FL := zdum
    refine walk ?_
    (repeat' first | exact Lv.nil | apply Lv.cons) <;> (intros; clear FL FD FK)
    refine SatM.ranged (wn := []) (Ik := ∀ j, j < fs.length → isPast seq (nth fs j) = false) (Hk := σ ++ [.cells [.int .i64 seq], .cells [.bool false]])
      (S := fun y τ => y = .ret ∧ fs.any (isPast seq) = true ∧ τ = σ ++ [.cells [.int .i64 seq], .cells [.bool true]]) ?_ (fun y τ h => h.1) (fun hI r => ?_) (fun τ' r h => ?_)
    · refine SatM.rangeFunc (E := 372) (first := [.ptr x 0]) (captured := []) ?_ ?_ fs.length (fun i => [.rp l (o + i * 3)]) ?_
        (fun i => ∀ j, j < i → isPast seq (nth fs j) = false) (fun j hj => absurd hj (Nat.not_lt_zero _)) (fun i => σ ++ [.cells [.int .i64 seq], .cells [.bool false]]) ?_ ?_ _ ?_ ?_ ?_ ?_ ?_
      · exact ⟨_, Tryz.func372, by kernel_rfl, by kernel_rfl⟩
      · rfl
      · exact fun i _ => rfl
      · rfl
      · exact fun i _ => rfl
      · exact fun y τ h => ⟨by obtain ⟨_, _, rfl⟩ := h; simp, .inl h.1⟩
      · intro r rx hy
        refine (each_walk (a := a) (b := b) (c := c) (d := d) (e := e) (I := fun i => ∀ j, j < i → isPast seq (nth fs j) = false) (hI0 := fun j hj => absurd hj (Nat.not_lt_zero _)) (Stop := fun τ => ∃ y τ', (y = TX.ret ∧ fs.any (isPast seq) = true ∧ τ' = σ ++ [.cells [.int .i64 seq], .cells [.bool true]]) ∧ τ = τ' ++ RR _ (rx y)) hr.v hn _ (fun i hi => ?_) hy).mono fun _ t h => h
        rw [List.append_assoc, get_old hxl]; exact hx
      · rfl
      · rfl
      · intro i r hi hI
        have hcase : fs ≠ [] := fun e => by rw [e] at hi; cases hi
        rcases hr with ⟨_, rfl⟩ | ⟨rfl, hrow, hpre, hfit⟩
        · exact absurd rfl hcase
        simp only [RR, List.append_assoc, List.cons_append, List.nil_append]
        refine Sat.of (wn := []) (Tw.go ?_)
        show Tw _ _ _ _ ([some _, some _, none, some _, some _, none, none, some _, some _, some _] ++ List.replicate 12 none) _
        simp only [List.replicate, List.cons_append, List.nil_append]
        have FK := zdum; have FD := zdum; have FL := zdum
        refine walk ?_
        (repeat' first | exact Lv.nil | apply Lv.cons) <;> (intros; clear FL FD FK)
        refine ⟨by first | rfl | trivial, by first | rfl | trivial, fun r' => Sat.of (wn := []) (Tw.go ?_)⟩
        have hl0 := fun ρ => (fr_load hrow hpre hi ρ).1
        have hst := fun τ => step_walk seq (nth fs i).seq τ
        have FK := zdum; have FD := @hl0; have FL := zdum; have cA := @hst
        refine walk ?_
        (repeat' first | exact Lv.nil | apply Lv.cons) <;> (intros; clear cA FL FD FK)
        all_goals first
          | (refine .inr ⟨_, ⟨by first | rfl | trivial, ?_, rfl⟩, by simp⟩
             refine List.any_eq_true.2 ⟨_, nth_mem hi, ?_⟩
             rw [isPast, decide_eq_true]
             exact ⟨by omega, by omega⟩)
          | (refine .inl ⟨by first | rfl | trivial, fun j hj => ?_, by first | rfl | trivial⟩
             rcases Nat.lt_or_ge j i with h1 | h1
             · exact hI j h1
             · rw [show j = i by omega, isPast, decide_eq_false]
               omega)
    · simp only [RR, List.append_assoc, List.cons_append, List.nil_append]
      replace hF := Hid.mk hF
      have FK := zdum; have FD := zdum; have FL := zdum
      refine walk ?_
      (repeat' first | exact Lv.nil | apply Lv.cons) <;> (intros; clear FL FD FK)
      rw [show (σ ++ [TObj.cells [.int .i64 seq], .cells [.bool false]]).length = σ.length + 2 by simp]
      refine hF.go _ _ _ _ (.bool false) (.inr rfl) (by rw [get_app]; rfl) (by simp [tresults, tresultL, tresult1, tload, tcells, tpart, tab4, TK.isAgg, ev, get_app, get_app_1]) ⟨_, by rw [set_app], ?_⟩
      have : fs.any (isPast seq) = false := by
        rw [List.any_eq_false]
        intro f hf
        obtain ⟨j, hj, rfl⟩ := List.getElem_of_mem hf
        rw [← nth_eq hj, hI j hj]; simp
      rw [this]
    · obtain ⟨_, hc, rfl⟩ := h
      simp only [RR, List.append_assoc, List.cons_append, List.nil_append]
      rw [show (σ ++ [TObj.cells [.int .i64 seq], .cells [.bool false]]).length = σ.length + 2 by simp]
      refine hF _ _ _ _ (.bool true) (.inr rfl) (by rw [get_app]; rfl) (by simp [tresults, tresultL, tresult1, tload, tcells, tpart, tab4, TK.isAgg, ev, get_app, get_app_1]) ⟨_, by rw [set_app], by rw [hc]⟩
  · rintro u s ⟨ρ, rfl, rfl⟩
    exact ⟨σ, ρ, rfl, rfl, fun l => .inl rfl, rfl, rfl, rfl⟩
end Go.Proofs.YtkmcbaihemaoeaaGreat
