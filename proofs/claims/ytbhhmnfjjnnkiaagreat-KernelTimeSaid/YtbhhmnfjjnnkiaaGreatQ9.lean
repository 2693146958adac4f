/- kernel.New. -/
import Derived.Test.YtbhhmnfjjnnkiaaGreatQ8
import Derived.Test.YtbhhmnfjjnnkiaaGreatQ4
import Derived.Test.YtbhhmnfjjnnkiaaGreatP9
set_option linter.unusedVariables false
set_option linter.unusedSimpArgs false
set_option maxRecDepth 10000
set_option maxHeartbeats 4000000
namespace Go.Proofs.YtbhhmnfjjnnkiaaGreat
open Go.TM

theorem kernel_bad (c : Cfg) (hf : FewC c) (host : Int) (σ : TS) (hb : (checkS c).2.2 ≠ 0) : TPure Tryz.prog 11 [cfgTV c, .int .i64 host] σ (.tup [.nilp, .int .i64 (checkS c).2.2]) := by
  have h1 := fun τ => endtx_bad c hf host τ hb
  refine pure_of [] [.tmp 4, .tmp 5] Tryz.func11 (by kernel_rfl) rfl (by kernel_rfl) fun X hR hN => ?_
  show Tw _ _ _ _ ([some _, some _] ++ List.replicate 67 none) _
  simp only [List.replicate, List.cons_append, List.nil_append]
  have FK := zdum; have FD := zdum; have FL := zdum; have cA := @h1
  refine walk ?_
  (repeat' first | exact Lv.nil | apply Lv.cons) <;> (intros; clear cA FL FD FK)
theorem kernel_out (c : Cfg) (hf : FewC c) (host : Int) (σ : TS) (hok : OkC c) (hb : ¬ (0 ≤ host ∧ host < c.hosts)) : TPure Tryz.prog 11 [cfgTV c, .int .i64 host] σ (.tup [.nilp, .int .i64 1]) := by
  have h1 := fun τ => endtx_out c hf host τ hok hb
  refine pure_of [] [.tmp 4, .tmp 5] Tryz.func11 (by kernel_rfl) rfl (by kernel_rfl) fun X hR hN => ?_
  show Tw _ _ _ _ ([some _, some _] ++ List.replicate 67 none) _
  simp only [List.replicate, List.cons_append, List.nil_append]
  have FK := zdum; have FD := zdum; have FL := zdum; have cA := @h1
  refine walk ?_
  (repeat' first | exact Lv.nil | apply Lv.cons) <;> (intros; clear cA FL FD FK)

theorem putMode {τ : TS} {lm : Nat} {ms : List (Int × Int × Nat)} {cl : Nat} (hm : τ[lm]? = some (.map (mEnt kI kI ms) cl)) (p v : Int) (ρ : TS) :
    tmapUpdate (mkTab Tryz.prog) (τ ++ ρ) 39 (.map lm) (.int .i64 p) (.int .i64 v) = some (τ.set lm (.map (mEnt kI kI (mPut ms cl p v)) (mClock ms cl p)) ++ ρ) := by
  have h1 := mapPut (kf := kI) (vf := kI) (a := p) (v := v) tab39 rfl kI_law (σ := τ ++ ρ) (by rw [get_old (lt_of_get hm)]; exact hm)
  rw [set_old (lt_of_get hm)] at h1
  exact h1

/-- The modes of the first i partitions. -/
def ModesTo (c : Cfg) (host : Int) (i : Nat) (ms : List (Int × Int × Nat)) : Prop := ∀ p : Int, mGet ms p = if 0 ≤ p ∧ p < i ∧ nth c.parts.l p.toNat = host then some 1 else none
theorem modes_put {c : Cfg} {host : Int} {i cl : Nat} {ms : List (Int × Int × Nat)} (h : ModesTo c host i ms) (he : nth c.parts.l i = host) : ModesTo c host (i + 1) (mPut ms cl i 1) := fun p => by
  rw [mGet_put, h p]
  by_cases hp : p = (i : Int)
  · subst hp
    rw [if_pos rfl, if_pos ⟨by omega, by omega, by simpa using he⟩]
  · rw [if_neg hp]
    by_cases h1 : 0 ≤ p ∧ p < i ∧ nth c.parts.l p.toNat = host
    · rw [if_pos h1, if_pos ⟨h1.1, by omega, h1.2.2⟩]
    · rw [if_neg h1, if_neg (fun e => h1 ⟨e.1, by omega, e.2.2⟩)]
theorem modes_skip {c : Cfg} {host : Int} {i : Nat} {ms : List (Int × Int × Nat)} (h : ModesTo c host i ms) (he : ¬ nth c.parts.l i = host) : ModesTo c host (i + 1) ms := fun p => by
  rw [h p]
  by_cases h1 : 0 ≤ p ∧ p < i ∧ nth c.parts.l p.toNat = host
  · rw [if_pos h1, if_pos ⟨h1.1, by omega, h1.2.2⟩]
  · rw [if_neg h1, if_neg]
    rintro ⟨e1, e2, e3⟩
    by_cases hp : p = (i : Int)
    · subst hp; exact he (by simpa using e3)
    · exact h1 ⟨e1, by omega, e3⟩
theorem modes_own {c : Cfg} {host : Int} {ms : List (Int × Int × Nat)} (h : ModesTo c host c.parts.l.length ms) (p : Int) : (mGet ms p).isSome = true ↔ Owns c host p := by
  rw [h p]
  unfold Owns
  by_cases h1 : 0 ≤ p ∧ p < (c.parts.l.length : Int) ∧ nth c.parts.l p.toNat = host
  · rw [if_pos h1]; exact ⟨fun _ => ⟨⟨h1.1, h1.2.1⟩, h1.2.2⟩, fun _ => rfl⟩
  · rw [if_neg h1]; exact ⟨fun e => (by cases e), fun e => absurd ⟨e.1.1, e.1.2, e.2⟩ h1⟩

theorem Grow.set0 {σ : TS} {lab : Nat → Nat} {l : Nat} (o : TObj) {C : Nat → Prop} (hc : C (lab l)) : Grow σ lab (σ.set l o) lab C :=
  ⟨by simp, fun i hi => rfl, fun i hi k => List.getElem?_set_ne (by rintro rfl; exact k hc)⟩
theorem Grow.turn0 {σ τ : TS} {lab lab' : Nat → Nat} {C : Nat → Prop} (h : Grow σ lab τ lab' C) {l : Nat} (hl : σ.length ≤ l) (o : TObj) : Grow σ lab (τ.set l o) lab' C :=
  ⟨by have := h.len; simpa using this, h.same, fun i hi hc => by rw [List.getElem?_set_ne (by omega)]; exact h.keep i hi hc⟩
theorem Grow.next {σ τ τ' : TS} {lab lab' lab'' : Nat → Nat} {C : Nat → Prop} (h : Grow σ lab τ lab' C) (k : Grow τ lab' τ' lab'' (fun _ => False)) : Grow σ lab τ' lab'' C := h.trans (k.mono fun _ e => e.elim)
theorem turn_get0 {τ : TS} {lm p : Nat} {o m : TObj} (h : τ[p]? = some o) (hne : p ≠ lm) : (τ.set lm m)[p]? = some o := by
  rw [List.getElem?_set_ne (Ne.symm hne)]; exact h
/-- A kernel of a network's host, all of it. -/
structure KerAll (σ : TS) (lab : Nat → Nat) (c : Cfg) (host : Int) (k tx rx room lm : Nat) (now : Int) (ms : List (Int × Int × Nat)) (cl : Nat) (locs : List Nat) (s : TxS) (rl : Nat) (rlocs : List Nat) (bs : List Bx) : Prop where
  ker : KerP σ c host k tx rx room lm now ms cl
  lk : lab k = 1
  lm : lab lm = 1
  tx : TxP σ lab 2 tx locs s
  room : RoomP σ lab (3 + s.ls.length) room rl rlocs bs

theorem kernel_new (c : Cfg) (hf : FewC c) (host : Int) (hh : I64 host) (σ : TS) (lab : Nat → Nat) (hok : OkC c) (hhost : 0 ≤ host ∧ host < c.hosts) : TCalls Tryz.prog 11 [cfgTV c, .int .i64 host] σ fun v σ' =>
    ∃ k tx rx room lm ms cl lab' locs rl rlocs, v = .tup [.ptr k 0, .int .i64 0] ∧ KerAll σ' lab' c host k tx rx room lm 0 ms cl locs (tx0 c host) rl rlocs (roomOf c host) ∧ Grow σ lab σ' lab' (fun _ => False) ∧ ModesTo c host c.parts.l.length ms := by
  have hlp : c.parts.l.length ≤ 70 := hf.parts
  have hll : (tx0 c host).ls.length = (linksOf c host).length := List.length_map _
  refine calls_of [] [.tmp 4, .tmp 5] Tryz.func11 (by kernel_rfl) rfl (by kernel_rfl) fun X hR hN => ?_
  show Tw _ _ _ _ ([some _, some _] ++ List.replicate 67 none) _
  simp only [List.replicate, List.cons_append, List.nil_append]
  have FK := zdum; have FD := zdum; have FL := zdum
  refine walk ?_
  (repeat' first | exact Lv.nil | apply Lv.cons) <;> (intros; clear FL FD FK)
  refine WL_do fun Cw cw => ?_
  (with_reducible first | apply O_callF | apply O_call); (repeat rfl); (try simp only [List.nil_append, List.append_nil, List.cons_append])
  refine (endtx_new c hf host hh _ (labX lab σ.length 1) 2 hok hhost).mono ?_
  rintro u1 τ1 ⟨tx, locs, lab1, rfl, hT1, hG1⟩
  have hb1 := hG1.get (i := σ.length) (o := .cells (cfgC c)) (by rw [get_app0]; rfl) (fun e => e)
  have hm1 := hG1.get (i := σ.length + 1) (o := .map [] 0) (by rw [get_app]; rfl) (fun e => e)
  have hk1 := hG1.get (i := σ.length + 2) (o := .cells (cfgC c ++ [.int .i64 host, .nilp, .nilp, .nilp, .map (σ.length + 1), .int .i64 0])) (by rw [get_app]; rfl) (fun e => e)
  have lk1 : lab1 (σ.length + 2) = 1 := (hG1.mark (i := σ.length + 2) (by rw [get_app]; rfl)).trans (labX_new (by omega))
  have lm1 : lab1 (σ.length + 1) = 1 := (hG1.mark (i := σ.length + 1) (by rw [get_app]; rfl)).trans (labX_new (by omega))
  have hg1 : Grow σ lab τ1 lab1 (fun _ => False) := (Grow.tail _ _ _).next hG1
  clear hG1
  have hkl := lt_of_get hk1
  (with_reducible apply cw); (focus ((try simp only [tput, List.set_cons_zero, List.set_cons_succ]); exact rfl)); clear cw Cw
  have FK := And.intro @hb1 (@hk1); have FD := zdum; have FL := zdum
  refine walk ?_
  (repeat' first | exact Lv.nil | apply Lv.cons) <;> (intros; clear FL FD FK)
  refine WL_do fun Cw cw => ?_
  (with_reducible first | apply O_callF | apply O_call); (repeat rfl); (try simp only [List.nil_append, List.append_nil, List.cons_append])
  refine (endrx_new c hf host hh _ lab1 hok hhost).mono ?_
  rintro u2 τ2 ⟨rx, lab2, rfl, hG2⟩
  have hS1 := Grow.set0 (σ := τ1) (lab := lab1) (l := σ.length + 2) (.cells (cfgC c ++ [.int .i64 host, .ptr tx 0, .nilp, .nilp, .map (σ.length + 1), .int .i64 0])) (C := (· = 1)) lk1
  have hT2 := (hT1.grow hS1 (by intro n h1 h2 e; have e : n = 1 := e; omega)).grow hG2 (fun _ _ _ e => e)
  have hb2 := hG2.get (turn_get0 hb1 (by omega)) (fun e => e)
  have hm2 := hG2.get (turn_get0 hm1 (by omega)) (fun e => e)
  have hk2 := hG2.get (List.getElem?_set_self hkl) (fun e => e)
  have lk2 : lab2 (σ.length + 2) = 1 := (hG2.mark (List.getElem?_set_self hkl)).trans lk1
  have lm2 : lab2 (σ.length + 1) = 1 := (hG2.mark (turn_get0 hm1 (by omega))).trans lm1
  have hg2 : Grow σ lab τ2 lab2 (fun _ => False) := (hg1.turn0 (l := σ.length + 2) (by omega) _).next hG2
  clear hG2 hg1 hb1 hm1 hk1 lk1 lm1 hT1 hS1
  have hkl2 := lt_of_get hk2
  (with_reducible apply cw); (focus ((try simp only [tput, List.set_cons_zero, List.set_cons_succ]); exact rfl)); clear cw Cw
  have FK := And.intro @hb2 (@hk2); have FD := zdum; have FL := zdum
  refine walk ?_
  (repeat' first | exact Lv.nil | apply Lv.cons) <;> (intros; clear FL FD FK)
  refine WL_do fun Cw cw => ?_
  (with_reducible first | apply O_callF | apply O_call); (repeat rfl); (try simp only [List.nil_append, List.append_nil, List.cons_append])
  refine (own_new c hf host hh _ lab2 (3 + (tx0 c host).ls.length) hok hhost).mono ?_
  rintro u3 τ3 ⟨room, rl, rlocs, lab3, rfl, hR3, hG3⟩
  have hS2 := Grow.set0 (σ := τ2) (lab := lab2) (l := σ.length + 2) (.cells (cfgC c ++ [.int .i64 host, .ptr tx 0, .ptr rx 0, .nilp, .map (σ.length + 1), .int .i64 0])) (C := (· = 1)) lk2
  have hT3 := (hT2.grow hS2 (by intro n h1 h2 e; have e : n = 1 := e; omega)).grow hG3 (fun _ _ _ e => e)
  have hb3 := hG3.get (turn_get0 hb2 (by omega)) (fun e => e)
  have hm3 := hG3.get (turn_get0 hm2 (by omega)) (fun e => e)
  have hk3 := hG3.get (List.getElem?_set_self hkl2) (fun e => e)
  have lk3 : lab3 (σ.length + 2) = 1 := (hG3.mark (List.getElem?_set_self hkl2)).trans lk2
  have lm3 : lab3 (σ.length + 1) = 1 := (hG3.mark (turn_get0 hm2 (by omega))).trans lm2
  have hg3 : Grow σ lab τ3 lab3 (fun _ => False) := (hg2.turn0 (l := σ.length + 2) (by omega) _).next hG3
  clear hG3 hg2 hb2 hm2 hk2 lk2 lm2 hT2 hS2
  have hkl3 := lt_of_get hk3
  have hS3 := Grow.set0 (σ := τ3) (lab := lab3) (l := σ.length + 2) (.cells (kerC c host tx rx room (σ.length + 1) 0)) (C := (· = 1)) lk3
  have hT4 := hT3.grow hS3 (by intro n h1 h2 e; have e : n = 1 := e; omega)
  have hR4 := hR3.grow hS3 (by intro n h1 h2 e; have e : n = 1 := e; omega)
  have hg4 := hg3.turn0 (l := σ.length + 2) (by omega) (.cells (kerC c host tx rx room (σ.length + 1) 0))
  have hb4 := turn_get0 (m := .cells (kerC c host tx rx room (σ.length + 1) 0)) hb3 (show σ.length ≠ σ.length + 2 by omega)
  have hm4 := turn_get0 (m := .cells (kerC c host tx rx room (σ.length + 1) 0)) hm3 (show σ.length + 1 ≠ σ.length + 2 by omega)
  have hk4 : (τ3.set (σ.length + 2) (.cells (kerC c host tx rx room (σ.length + 1) 0)))[σ.length + 2]? = _ := List.getElem?_set_self hkl3
  (with_reducible apply cw); (focus ((try simp only [tput, List.set_cons_zero, List.set_cons_succ]); exact rfl)); clear cw Cw
  have FK := And.intro @hb3 (@hk3); have FD := zdum; have FL := zdum
  refine walk ?_
  (repeat' first | exact Lv.nil | apply Lv.cons) <;> (intros; clear FL FD FK)
  refine T_each (α := Nat × TS × List (Int × Int × Nat) × Nat) (fun (i, τ, ms, cl) => [none, some (some (.int .i64 host)), none, none, none, none, some (some (.ptr (σ.length + 2) 0)), none, none, none, none, none, none, none, none, none, none, none, none, none, none, none, none, none, none, none, none, none, none, none, none, none, none, none, none, none, none, none, none, none, none, none, none, none, none, none, none, none, none, none, none, none, some (some (rowTV intC c.parts)), some (some (.int .i64 c.parts.l.length)), some (some (.int .i64 i)), none, none, none, none, none, none, none, none, none, none, none, none, none, none]) (fun (i, τ, ms, cl) => i ≤ c.parts.l.length ∧ τ[σ.length + 2]? = some (.cells (kerC c host tx rx room (σ.length + 1) 0)) ∧ τ[σ.length + 1]? = some (.map (mEnt kI kI ms) cl) ∧ ModesTo c host i ms ∧ TxP τ lab3 2 tx locs (tx0 c host) ∧ RoomP τ lab3 (3 + (tx0 c host).ls.length) room rl rlocs (roomOf c host) ∧ Grow σ lab τ lab3 (fun _ => False)) (fun (i, τ, ms, cl) => c.parts.l.length - i) (fun (i, τ, ms, cl) => τ) ?_ ?_
  · refine ⟨(0, _, [], 0), ⟨rfl, rfl, rfl, rfl, rfl, trivial⟩, ⟨by omega, hk4, hm4, fun p => ?_, hT4, hR4, hg4⟩, rfl⟩
    rw [if_neg (by omega)]; rfl
  · rintro ⟨i, τ, ms, cl⟩ q ⟨hi, hk, hm, hM, hT, hRm, hG⟩
    show Tw _ _ _ _ ([q 0, some (.int .i64 host), q 2, q 3, q 4, q 5, some (.ptr (σ.length + 2) 0), q 7, q 8, q 9, q 10, q 11, q 12, q 13, q 14, q 15, q 16, q 17, q 18, q 19, q 20, q 21, q 22, q 23, q 24, q 25, q 26, q 27, q 28, q 29, q 30, q 31, q 32, q 33, q 34, q 35, q 36, q 37, q 38, q 39, q 40, q 41, q 42, q 43, q 44, q 45, q 46, q 47, q 48, q 49, q 50, q 51, some (rowTV intC c.parts), some (.int .i64 c.parts.l.length), some (.int .i64 i), q 55, q 56, q 57, q 58, q 59, q 60, q 61, q 62, q 63, q 64, q 65, q 66, q 67, q 68]) (τ)
    have hput := fun p v => putMode hm p v []
    simp only [List.append_nil] at hput
    rcases Nat.lt_or_ge i c.parts.l.length with hlt | hge
    · have FK := @hk; have FD := @hput; have FL := zdum
      refine walk ?_
      (repeat' first | exact Lv.nil | apply Lv.cons) <;> (intros; clear FL FD FK)
      · have he : nth c.parts.l i = host := by assumption
        have hS := fun o => Grow.set0 (σ := τ) (lab := lab3) (l := σ.length + 1) o (C := (· = 1)) lm3
        refine ⟨(i + 1, _, mPut ms cl i 1, mClock ms cl i), ?_, ⟨rfl, rfl, rfl, rfl, rfl, trivial⟩, ⟨by omega, turn_get0 hk (by omega), List.getElem?_set_self (lt_of_get hm), modes_put hM he, hT.grow (hS _) (by intro n h1 h2 e; have e : n = 1 := e; omega),
          hRm.grow (hS _) (by intro n h1 h2 e; have e : n = 1 := e; omega), hG.turn0 (by omega) _⟩, rfl⟩
        dsimp only; omega
      · have he : ¬ nth c.parts.l i = host := by assumption
        refine ⟨(i + 1, τ, ms, cl), ?_, ⟨rfl, rfl, rfl, rfl, rfl, trivial⟩, ⟨by omega, hk, hm, modes_skip hM he, hT, hRm, hG⟩, rfl⟩
        dsimp only; omega
    · have FK := @hk; have FD := zdum; have FL := zdum
      refine walk ?_
      (repeat' first | exact Lv.nil | apply Lv.cons) <;> (intros; clear FL FD FK)
      obtain rfl : i = c.parts.l.length := by omega
      exact ⟨_, _, _, _, _, _, _, _, _, _, _, rfl, ⟨⟨hk, hm, modes_own hM⟩, lk3, lm3, hT, hRm⟩, hG, hM⟩
end Go.Proofs.YtbhhmnfjjnnkiaaGreat
