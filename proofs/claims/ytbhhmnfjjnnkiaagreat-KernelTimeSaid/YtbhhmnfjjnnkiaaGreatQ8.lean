/- An end system that receives begins: that it does, and turns nothing else. -/
import Derived.Test.YtbhhmnfjjnnkiaaGreatQ7
set_option linter.unusedVariables false
set_option linter.unusedSimpArgs false
set_option maxRecDepth 10000
set_option maxHeartbeats 4000000
namespace Go.Proofs.YtbhhmnfjjnnkiaaGreat
open Go.TM

theorem endrx_bad (c : Cfg) (hf : FewC c) (host : Int) (σ : TS) (hb : (checkS c).2.2 ≠ 0) : TPure Tryz.prog 23 [cfgTV c, .int .i64 host] σ (.tup [.nilp, .int .i64 (checkS c).2.2]) := by
  have hck := fun τ => check_walk c hf τ
  refine pure_of [] [.tmp 4, .tmp 5] Tryz.func23 (by kernel_rfl) rfl (by kernel_rfl) fun X hR hN => ?_
  show Tw _ _ _ _ ([some _, some _] ++ List.replicate 92 none) _
  simp only [List.replicate, List.cons_append, List.nil_append]
  have FK := zdum; have FD := zdum; have FL := zdum; have cA := @hck
  refine walk ?_
  (repeat' first | exact Lv.nil | apply Lv.cons) <;> (intros; clear cA FL FD FK)
theorem endrx_out (c : Cfg) (hf : FewC c) (host : Int) (σ : TS) (hok : OkC c) (hb : ¬ (0 ≤ host ∧ host < c.hosts)) : TPure Tryz.prog 23 [cfgTV c, .int .i64 host] σ (.tup [.nilp, .int .i64 1]) := by
  have hck := fun τ => check_walk c hf τ
  rw [hok.check] at hck
  refine pure_of [] [.tmp 4, .tmp 5] Tryz.func23 (by kernel_rfl) rfl (by kernel_rfl) fun X hR hN => ?_
  show Tw _ _ _ _ ([some _, some _] ++ List.replicate 92 none) _
  simp only [List.replicate, List.cons_append, List.nil_append]
  have FK := zdum; have FD := zdum; have FL := zdum; have cA := @hck
  refine walk ?_
  (repeat' first | exact Lv.nil | apply Lv.cons) <;> (intros; clear cA FL FD FK)
theorem putRx {τ : TS} {lm : Nat} {ents : List (Int × Nat × Nat)} {cl : Nat} {id : Int} (hm : τ[lm]? = some (.map (mEnt kI kP ents) cl)) (loc : Nat) (ρ : TS) :
    tmapUpdate (mkTab Tryz.prog) (τ ++ ρ) 131 (.map lm) (.int .i64 id) (.ptr loc 0) = some (τ.set lm (.map (mEnt kI kP (mPut ents cl id loc)) (mClock ents cl id)) ++ ρ) := by
  have h1 := mapPut (kf := kI) (vf := kP) (a := id) (v := loc) tab131 rfl kI_law (σ := τ ++ ρ) (by rw [get_old (lt_of_get hm)]; exact hm)
  rw [set_old (lt_of_get hm)] at h1
  exact h1
def linksTo (c : Cfg) (host : Int) : List Link := c.vls.l.filter fun v => v.to.l.contains host
theorem endrx_new (c : Cfg) (hf : FewC c) (host : Int) (hh : I64 host) (σ : TS) (lab : Nat → Nat) (hok : OkC c) (hhost : 0 ≤ host ∧ host < c.hosts) : TCalls Tryz.prog 23 [cfgTV c, .int .i64 host] σ fun v σ' =>
    ∃ x lab', v = .tup [.ptr x 0, .int .i64 0] ∧ Grow σ lab σ' lab' (fun _ => False) := by
  have hck := fun τ => check_walk c hf τ
  rw [hok.check] at hck
  have hlv : c.vls.l.length ≤ 260 := hf.vls
  have hse := fun τ => takes_walk c host τ (by omega) (fun v hv => by have := hf.to v hv; omega)
  rw [someS_is hok] at hse
  have hlen : (linksTo c host).length ≤ 260 := Nat.le_trans (List.length_filter_le _ _) hlv
  have hrl : (rowOf ((linksTo c host).map (·.id))).l.length = (linksTo c host).length := by simp [rowOf]
  have htb := fun ρ => table_walk 0 (by omega) ρ
  refine calls_of [] [.tmp 4, .tmp 5] Tryz.func23 (by kernel_rfl) rfl (by kernel_rfl) fun X hR hN => ?_
  show Tw _ _ _ _ ([some _, some _] ++ List.replicate 92 none) _
  simp only [List.replicate, List.cons_append, List.nil_append]
  have FK := zdum; have FD := zdum; have FL := zdum; have cA := @hck; have cB := @hse; have dA := @htb
  refine walk ?_
  (repeat' first | exact Lv.nil | apply Lv.cons) <;> (intros; clear dA cB cA FL FD FK)
  refine T_each (α := Nat × TS × (Nat → Nat) × List (Int × Nat × Nat) × Nat) (fun (i, τ, lab', ents, cl) => [none, none, some (some (.ptr σ.length 0)), none, none, none, none, none, none, none, some (some (.ptr (σ.length + 6) 0)), none, none, none, none, none, none, none, none, none, none, none, none, none, none, none, none, none, none, none, none, none, none, none, none, none, none, none, none, none, none, none, none, none, none, none, none, none, none, some (some (rowTV intC (rowOf ((linksTo c host).map (·.id))))), some (some (.int .i64 (rowOf ((linksTo c host).map (·.id))).l.length)), some (some (.int .i64 i)), none, none, none, none, none, none, none, none, none, none, none, none, none, none, none, none, none, none, none, none, none, none, none, none, none, none, none, none, none, none, none, none, none, none, none, none, none, none, none, none, none, none]) (fun (i, τ, lab', ents, cl) => i ≤ (linksTo c host).length ∧ τ[σ.length]? = some (.cells (cfgC c)) ∧ τ[σ.length + 6]? = some (.cells (cfgC c ++ [.int .i64 host, .map (σ.length + 4), .ptr (σ.length + 3) 0, .int .i64 0, .map (σ.length + 5)])) ∧ τ[σ.length + 4]? = some (.map (mEnt kI kP ents) cl) ∧ Grow σ lab τ lab' (fun _ => False)) (fun (i, τ, lab', ents, cl) => (linksTo c host).length - i) (fun (i, τ, lab', ents, cl) => τ) ?_ ?_
  · refine ⟨(0, _, labX lab σ.length 0, [], 0), ⟨rfl, rfl, rfl, rfl, rfl, trivial⟩, ⟨by omega, by rw [get_app0]; rfl, by rw [get_app]; rfl, by rw [get_app]; rfl, Grow.tail _ _ _⟩, rfl⟩
  · rintro ⟨i, τ, lab', ents, cl⟩ q ⟨hi, hb, hx, hm, hG⟩
    show Tw _ _ _ _ ([q 0, q 1, some (.ptr σ.length 0), q 3, q 4, q 5, q 6, q 7, q 8, q 9, some (.ptr (σ.length + 6) 0), q 11, q 12, q 13, q 14, q 15, q 16, q 17, q 18, q 19, q 20, q 21, q 22, q 23, q 24, q 25, q 26, q 27, q 28, q 29, q 30, q 31, q 32, q 33, q 34, q 35, q 36, q 37, q 38, q 39, q 40, q 41, q 42, q 43, q 44, q 45, q 46, q 47, q 48, some (rowTV intC (rowOf ((linksTo c host).map (·.id)))), some (.int .i64 (rowOf ((linksTo c host).map (·.id))).l.length), some (.int .i64 i), q 52, q 53, q 54, q 55, q 56, q 57, q 58, q 59, q 60, q 61, q 62, q 63, q 64, q 65, q 66, q 67, q 68, q 69, q 70, q 71, q 72, q 73, q 74, q 75, q 76, q 77, q 78, q 79, q 80, q 81, q 82, q 83, q 84, q 85, q 86, q 87, q 88, q 89, q 90, q 91, q 92, q 93]) (τ)
    have hbl := lt_of_get hb
    have hxl := lt_of_get hx
    have hml := lt_of_get hm
    rcases Nat.lt_or_ge i (linksTo c host).length with hlt | hge
    · have hv := nth_mem hlt
      have hmem : nth (linksTo c host) i ∈ c.vls.l := (List.mem_filter.1 hv).1
      have hlk := link_ok hok hmem
      have hid : nth (rowOf ((linksTo c host).map (·.id))).l i = (nth (linksTo c host) i).id := by
        show nth ((linksTo c host).map (·.id)) i = _
        rw [nth_eq (by simpa using hlt), nth_eq hlt, List.getElem_map]
      have hvl : ∀ ρ, TPure Tryz.prog 50 [cfgTV c, .int .i64 (nth (linksTo c host) i).id] ρ (.tup [linkTV (nth (linksTo c host) i), .bool true]) := fun ρ => by
        have := ownVL_walk c (nth (linksTo c host) i).id ρ (by omega) (fun v hv => by have := hf.to v hv; omega)
        rwa [findL_of hok hmem] at this
      have hrd : ∀ ρ, TDoes Tryz.prog 56 [.int .i64 (nth (linksTo c host) i).skew] ρ (.tup [.ptr ρ.length 0, .int .i64 0]) (ρ ++ [.cells (filter0C (nth (linksTo c host) i).skew)]) := fun ρ => redund_new _ hlk.skew ρ
      have hput := fun loc ρ => putRx (id := (nth (linksTo c host) i).id) hm loc ρ
      have FK := And.intro @hb (And.intro @hx (@hid)); have FD := zdum; have FL := zdum; have cA := @hvl
      refine walk ?_
      (repeat' first | exact Lv.nil | apply Lv.cons) <;> (intros; clear cA FL FD FK)
      refine T_open 3 ?_
      have FK := @hx; have FD := zdum; have FL := zdum; have dA := @integ_new; have eA : Eord 18 [(0, 0), (1, 0), (3, 0), (4, 0), (2, 2), (5, 0), (6, 2)] := ⟨trivial⟩
      refine walk ?_
      (repeat' first | exact Lv.nil | apply Lv.cons) <;> (intros; clear eA dA FL FD FK)
      refine T_next ?_
      have FK := @hx; have FD := zdum; have FL := zdum; have dA := @integ_new; have eA : Eord 18 [(0, 0), (1, 0), (3, 0), (4, 0), (2, 2), (5, 0), (6, 2)] := ⟨trivial⟩
      refine walk ?_
      (repeat' first | exact Lv.nil | apply Lv.cons) <;> (intros; clear eA dA FL FD FK)
      refine T_next ?_
      have FK := @hx; have FD := @hput; have FL := zdum; have dA := @integ_new; have dB := @hrd; have eA : Eord 18 [(0, 0), (1, 0), (3, 0), (4, 0), (2, 2), (5, 0), (6, 2)] := ⟨trivial⟩
      refine walk ?_
      (repeat' first | exact Lv.nil | apply Lv.cons) <;> (intros; clear eA dB dA FL FD FK)
      refine ⟨(i + 1, _, labX lab' τ.length 0, mPut ents cl (nth (linksTo c host) i).id (τ.length + 1), mClock ents cl (nth (linksTo c host) i).id), ?_, ⟨rfl, rfl, rfl, rfl, rfl, trivial⟩, ⟨by omega, turn_get hb (by omega), turn_get hx (by omega), ?_, hG.turn (by omega) _ _ _⟩, rfl⟩
      · dsimp only; omega
      · rw [List.getElem?_append_left (by simpa using hml)]; exact List.getElem?_set_self hml
    · have FK := And.intro @hb (@hx); have FD := zdum; have FL := zdum
      refine walk ?_
      (repeat' first | exact Lv.nil | apply Lv.cons) <;> (intros; clear FL FD FK)
      exact ⟨_, _, rfl, hG⟩
end Go.Proofs.YtbhhmnfjjnnkiaaGreat
