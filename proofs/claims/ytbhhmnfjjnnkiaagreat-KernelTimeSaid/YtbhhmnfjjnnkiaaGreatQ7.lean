/- endtx.New. -/
import Derived.Test.YtbhhmnfjjnnkiaaGreatQ6
set_option linter.unusedVariables false
set_option linter.unusedSimpArgs false
set_option maxRecDepth 10000
set_option maxHeartbeats 4000000
namespace Go.Proofs.YtbhhmnfjjnnkiaaGreat
open Go.TM

theorem endtx_bad (c : Cfg) (hf : FewC c) (host : Int) (σ : TS) (hb : (checkS c).2.2 ≠ 0) : TPure Tryz.prog 22 [cfgTV c, .int .i64 host] σ (.tup [.nilp, .int .i64 (checkS c).2.2]) := by
  have hck := fun τ => check_walk c hf τ
  refine pure_of [] [.tmp 4, .tmp 5] Tryz.func22 (by kernel_rfl) rfl (by kernel_rfl) fun X hR hN => ?_
  show Tw _ _ _ _ ([some _, some _] ++ List.replicate 89 none) _
  simp only [List.replicate, List.cons_append, List.nil_append]
  have FK := zdum; have FD := zdum; have FL := zdum; have cA := @hck
  refine walk ?_
  (repeat' first | exact Lv.nil | apply Lv.cons) <;> (intros; clear cA FL FD FK)
theorem endtx_out (c : Cfg) (hf : FewC c) (host : Int) (σ : TS) (hok : OkC c) (hb : ¬ (0 ≤ host ∧ host < c.hosts)) : TPure Tryz.prog 22 [cfgTV c, .int .i64 host] σ (.tup [.nilp, .int .i64 1]) := by
  have hck := fun τ => check_walk c hf τ
  rw [hok.check] at hck
  refine pure_of [] [.tmp 4, .tmp 5] Tryz.func22 (by kernel_rfl) rfl (by kernel_rfl) fun X hR hN => ?_
  show Tw _ _ _ _ ([some _, some _] ++ List.replicate 89 none) _
  simp only [List.replicate, List.cons_append, List.nil_append]
  have FK := zdum; have FD := zdum; have FL := zdum; have cA := @hck
  refine walk ?_
  (repeat' first | exact Lv.nil | apply Lv.cons) <;> (intros; clear cA FL FD FK)
theorem endtx_new (c : Cfg) (hf : FewC c) (host : Int) (hh : I64 host) (σ : TS) (lab : Nat → Nat) (c0 : Nat) (hok : OkC c) (hhost : 0 ≤ host ∧ host < c.hosts) : TCalls Tryz.prog 22 [cfgTV c, .int .i64 host] σ fun v σ' =>
    ∃ x locs lab', v = .tup [.ptr x 0, .int .i64 0] ∧ TxP σ' lab' c0 x locs (tx0 c host) ∧ Grow σ lab σ' lab' (fun _ => False) := by
  have hck := fun τ => check_walk c hf τ
  rw [hok.check] at hck
  have hlv : c.vls.l.length ≤ 260 := hf.vls
  have hse := fun τ => sends_walk c host τ (by omega)
  rw [someS_is hok] at hse
  have hlen : (linksOf c host).length ≤ 260 := Nat.le_trans (List.length_filter_le _ _) hlv
  have hrl : (rowOf (idsOf c host)).l.length = (linksOf c host).length := by simp [rowOf]
  refine calls_of [] [.tmp 4, .tmp 5] Tryz.func22 (by kernel_rfl) rfl (by kernel_rfl) fun X hR hN => ?_
  show Tw _ _ _ _ ([some _, some _] ++ List.replicate 89 none) _
  simp only [List.replicate, List.cons_append, List.nil_append]
  have FK := zdum; have FD := zdum; have FL := zdum; have cA := @hck; have sA : Stop 6 := ⟨trivial⟩
  refine walk ?_
  (repeat' first | exact Lv.nil | apply Lv.cons) <;> (intros; clear sA cA FL FD FK)
  refine T_plan_seq (id := 6) (plan := .take 1 0 (.take 4 0 (.take 0 1 (.take 3 1 (.take 5 1 (.alt 2 (.alt 6 (.alt 7 (.take 8 0 (.alt 9 (.take 10 0 (.done)) (.stop))) (.stop)) (.alt 7 (.alt 6 (.take 8 0 (.alt 9 (.take 10 0 (.done)) (.stop))) (.stop)) (.stop))) (.alt 6 (.alt 2 (.alt 7 (.take 8 0 (.alt 9 (.take 10 0 (.done)) (.stop))) (.stop)) (.alt 7 (.alt 2 (.take 8 0 (.alt 9 (.take 10 0 (.done)) (.stop))) (.stop)) (.stop))) (.alt 7 (.alt 2 (.alt 6 (.take 8 0 (.alt 9 (.take 10 0 (.done)) (.stop))) (.stop)) (.alt 6 (.alt 2 (.take 8 0 (.alt 9 (.take 10 0 (.done)) (.stop))) (.stop)) (.stop))) (.stop))))))))) ⟨trivial⟩ (by kernel_rfl) (by kernel_rfl) fun Kb hKb => ?_
  have J : ∀ (τ : TS) (lm : Nat) (ln : Nat) (lg : Nat) (m9 : TL), Fits [none, none, some (some (.ptr σ.length 0)), none, none, none, none, none, some (some (.ptr (σ.length + 5) 0)), none, none, none, none, none, none, none, none, none, none, none, none, none, none, none, none, none, none, none, none, none, none, none, none, none, none, none, none, none, none, none, none, none, none, none, none, none, none, none, none, none, none, none, none, none, none, none, none, none, none, none, none, none, none, none, none, none, none, none, none, none, none, none, none, none, none, none, none, none, none, none, none, none, none, none, none, none, none, none, none, none, none] m9 → (∃ lab1, TxPart τ lab1 c0 c host σ.length (σ.length + 5) lm ln lg 0 [] ∧ Grow σ lab τ lab1 (fun _ => False) ∧ σ.length ≤ lm) → Kb m9 (τ) := by
    intro τ lm ln lg m9 hf9 h9
    obtain ⟨q, rfl⟩ := hf9.fill 0
    obtain ⟨lab1, hT, hG, hlo⟩ := h9
    apply hKb
    show Tw _ _ _ _ ([q 0, q 1, some (.ptr σ.length 0), q 3, q 4, q 5, q 6, q 7, some (.ptr (σ.length + 5) 0), q 9, q 10, q 11, q 12, q 13, q 14, q 15, q 16, q 17, q 18, q 19, q 20, q 21, q 22, q 23, q 24, q 25, q 26, q 27, q 28, q 29, q 30, q 31, q 32, q 33, q 34, q 35, q 36, q 37, q 38, q 39, q 40, q 41, q 42, q 43, q 44, q 45, q 46, q 47, q 48, q 49, q 50, q 51, q 52, q 53, q 54, q 55, q 56, q 57, q 58, q 59, q 60, q 61, q 62, q 63, q 64, q 65, q 66, q 67, q 68, q 69, q 70, q 71, q 72, q 73, q 74, q 75, q 76, q 77, q 78, q 79, q 80, q 81, q 82, q 83, q 84, q 85, q 86, q 87, q 88, q 89, q 90]) (τ)
    have hx := hT.hx
    have FK := @hx; have FD := zdum; have FL := zdum
    refine walk ?_
    (repeat' first | exact Lv.nil | apply Lv.cons) <;> (intros; clear FL FD FK)
    refine T_each (α := Nat × TS × (Nat → Nat) × List Nat) (fun (i, τ', lab', locs) => [none, none, some (some (.ptr σ.length 0)), none, none, none, none, none, some (some (.ptr (σ.length + 5) 0)), none, none, none, none, none, none, none, none, none, none, none, none, none, none, none, none, none, none, none, none, none, none, none, none, none, none, none, none, none, none, none, none, none, none, none, some (some (rowTV intC (rowOf (idsOf c host)))), some (some (.int .i64 (rowOf (idsOf c host)).l.length)), some (some (.int .i64 i)), none, none, none, none, none, none, none, none, none, none, none, none, none, none, none, none, none, none, none, none, none, none, none, none, none, none, none, none, none, none, none, none, none, none, none, none, none, none, none, none, none, none, none, none]) (fun (i, τ', lab', locs) => TxPart τ' lab' c0 c host σ.length (σ.length + 5) lm ln lg i locs ∧ Grow σ lab τ' lab' (fun _ => False)) (fun (i, τ', lab', locs) => (linksOf c host).length - i) (fun (i, τ', lab', locs) => τ') ?_ ?_
    · refine ⟨(0, τ, lab1, []), ⟨rfl, rfl, rfl, rfl, rfl, trivial⟩, ?_, rfl⟩
      exact ⟨hT, hG⟩
    · rintro ⟨i, τ', lab', locs⟩ q ⟨hT', hG'⟩
      show Tw _ _ _ _ ([q 0, q 1, some (.ptr σ.length 0), q 3, q 4, q 5, q 6, q 7, some (.ptr (σ.length + 5) 0), q 9, q 10, q 11, q 12, q 13, q 14, q 15, q 16, q 17, q 18, q 19, q 20, q 21, q 22, q 23, q 24, q 25, q 26, q 27, q 28, q 29, q 30, q 31, q 32, q 33, q 34, q 35, q 36, q 37, q 38, q 39, q 40, q 41, q 42, q 43, some (rowTV intC (rowOf (idsOf c host))), some (.int .i64 (rowOf (idsOf c host)).l.length), some (.int .i64 i), q 47, q 48, q 49, q 50, q 51, q 52, q 53, q 54, q 55, q 56, q 57, q 58, q 59, q 60, q 61, q 62, q 63, q 64, q 65, q 66, q 67, q 68, q 69, q 70, q 71, q 72, q 73, q 74, q 75, q 76, q 77, q 78, q 79, q 80, q 81, q 82, q 83, q 84, q 85, q 86, q 87, q 88, q 89, q 90]) (τ')
      rcases Nat.lt_or_ge i (linksOf c host).length with hlt | hge
      · have hv := nth_mem hlt
        have hmem : nth (linksOf c host) i ∈ c.vls.l := (List.mem_filter.1 hv).1
        have hlk := link_ok hok hmem
        have hid : nth (rowOf (idsOf c host)).l i = (nth (linksOf c host) i).id := by
          show nth (idsOf c host) i = _
          rw [nth_eq (by simpa using hlt), nth_eq hlt, List.getElem_map]
        have hvl : ∀ ρ, TPure Tryz.prog 50 [cfgTV c, .int .i64 (nth (linksOf c host) i).id] ρ (.tup [linkTV (nth (linksOf c host) i), .bool true]) := fun ρ => by
          have := ownVL_walk c (nth (linksOf c host) i).id ρ (by omega) (fun v hv => by have := hf.to v hv; omega)
          rwa [findL_of hok hmem] at this
        have hsub : ∀ ρ, TDoes Tryz.prog 51 [.int .i64 (nth (linksOf c host) i).subs, .int .i64 1024] ρ (.tup [.ptr ρ.length 0, .int .i64 0]) (ρ ++ [.cells (queues0C (nth (linksOf c host) i).subs 1024)]) := fun ρ => subvl_new _ _ hlk.subs (by omega) ρ
        have hbag : ∀ ρ, TDoes Tryz.prog 52 [.int .i64 (nth (linksOf c host) i).bag] ρ (.tup [.ptr ρ.length 0, .int .i64 0]) (ρ ++ [.cells (gate0C (nth (linksOf c host) i).bag)]) := fun ρ => bag_new _ hlk.bag ρ
        have hput := fun loc ρ => putLk (id := (nth (linksOf c host) i).id) hT'.hm (by rw [hT'.len, List.length_take]; simp; omega) (fun y hy => by
          obtain ⟨k, hk, rfl⟩ := List.getElem_of_mem hy
          rw [List.length_take] at hk
          have hki : k < i := by omega
          have := nth_pairwise (filter_rise hok (fun v => v.host == host)) hki hlt
          rw [List.getElem_take, List.getElem_map, ← nth_eq (show k < (linksOf c host).length by omega)]
          intro e
          have this : (nth (linksOf c host) k).id < (nth (linksOf c host) i).id := this
          omega) loc ρ
        have hb := hT'.hb
        have hx' := hT'.hx
        have hxl := lt_of_get hx'
        have hbl := lt_of_get hb
        have hml := lt_of_get hT'.hm
        obtain ⟨hS, hSG⟩ := hT'.step hlt (.cells (linkC (nth (linksOf c host) i)))
        have FK := And.intro @hb (And.intro @hx' (@hid)); have FD := @hput; have FL := zdum; have cA := @hvl; have dA := @hsub; have dB := @hbag
        refine walk ?_
        (repeat' first | exact Lv.nil | apply Lv.cons) <;> (intros; clear dB dA cA FL FD FK)
        refine ⟨(i + 1, _, _, _), ?_, ⟨rfl, rfl, rfl, rfl, rfl, trivial⟩, ⟨hS, hG'.turn hlo _ _ _⟩, rfl⟩
        dsimp only; omega
      · have hb := hT'.hb
        have hx' := hT'.hx
        have hi : i = (linksOf c host).length := by have := hT'.le; omega
        subst hi
        have FK := And.intro @hb (@hx'); have FD := zdum; have FL := zdum
        refine walk ?_
        (repeat' first | exact Lv.nil | apply Lv.cons) <;> (intros; clear FL FD FK)
        exact ⟨_, _, _, rfl, hT'.done, hG'⟩
  clear hKb
  replace J := Hid.mk J
  have FK := zdum; have FD := zdum; have FL := zdum; have cA := @hse; have dA := @mux_new
  refine walk ?_
  (repeat' first | exact Lv.nil | apply Lv.cons) <;> (intros; clear dA cA FL FD FK)
  all_goals first
    | exact J.go _ _ _ _ _ ⟨rfl, rfl, trivial⟩ (TxPart.init (a := 2) (b := 3) (d := 4) rfl rfl rfl rfl rfl (by decide))
    | exact J.go _ _ _ _ _ ⟨rfl, rfl, trivial⟩ (TxPart.init (a := 2) (b := 4) (d := 3) rfl rfl rfl rfl rfl (by decide))
    | exact J.go _ _ _ _ _ ⟨rfl, rfl, trivial⟩ (TxPart.init (a := 3) (b := 2) (d := 4) rfl rfl rfl rfl rfl (by decide))
    | exact J.go _ _ _ _ _ ⟨rfl, rfl, trivial⟩ (TxPart.init (a := 4) (b := 2) (d := 3) rfl rfl rfl rfl rfl (by decide))
    | exact J.go _ _ _ _ _ ⟨rfl, rfl, trivial⟩ (TxPart.init (a := 3) (b := 4) (d := 2) rfl rfl rfl rfl rfl (by decide))
    | exact J.go _ _ _ _ _ ⟨rfl, rfl, trivial⟩ (TxPart.init (a := 4) (b := 3) (d := 2) rfl rfl rfl rfl rfl (by decide))
end Go.Proofs.YtbhhmnfjjnnkiaaGreat
