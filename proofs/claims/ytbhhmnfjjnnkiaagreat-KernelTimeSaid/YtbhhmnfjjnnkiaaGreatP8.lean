/- How rooms begin. -/
import Derived.Test.YtbhhmnfjjnnkiaaGreatP5
import Derived.Test.YtbhhmnfjjnnkiaaGreatG1
import Derived.Test.YtbhhmnfjjnnkiaaGreatG2
set_option linter.unusedVariables false
set_option linter.unusedSimpArgs false
set_option maxRecDepth 10000
set_option maxHeartbeats 4000000
namespace Go.Proofs.YtbhhmnfjjnnkiaaGreat
open Go.TM

def boxCells (p : Port) : List TV := if p.kind = 1 then [.str (B []), .int .i64 0, .bool false] else [.nils, .int .i64 p.depth, .bool false]
theorem boxed_walk (p : Port) (σ : TS) : TDoes Tryz.prog 57 [portTV p] σ (.iface (if p.kind = 1 then 194 else 197) (.ptr (σ.length + 1) 0)) (σ ++ [.cells (portC p), .cells (boxCells p)]) := by
  by_cases h : p.kind = 1
  · rw [boxCells, if_pos h, if_pos h]
    refine calls_of [] [.tmp 2] Tryz.func57 (by kernel_rfl) rfl (by kernel_rfl) fun X hR hN => ?_
    show Tw _ _ _ _ ([some _] ++ List.replicate 13 none) _
    simp only [List.replicate, List.cons_append, List.nil_append]
    have FK := zdum; have FD := zdum; have FL := zdum
    refine walk ?_
    (repeat' first | exact Lv.nil | apply Lv.cons) <;> (intros; clear FL FD FK)
    all_goals first | exact ⟨rfl, rfl⟩ | exact ⟨rfl, trivial⟩ | exact ⟨trivial, rfl⟩ | trivial
  · rw [boxCells, if_neg h, if_neg h]
    refine calls_of [] [.tmp 2] Tryz.func57 (by kernel_rfl) rfl (by kernel_rfl) fun X hR hN => ?_
    show Tw _ _ _ _ ([some _] ++ List.replicate 13 none) _
    simp only [List.replicate, List.cons_append, List.nil_append]
    have FK := zdum; have FD := zdum; have FL := zdum
    refine walk ?_
    (repeat' first | exact Lv.nil | apply Lv.cons) <;> (intros; clear FL FD FK)
    all_goals first | exact ⟨rfl, rfl⟩ | exact ⟨rfl, trivial⟩ | exact ⟨trivial, rfl⟩ | trivial

/- the ports of a host -/
def mine (host : Int) (p : Port) : Bool := p.host == host && !p.out
def portsF (c : Cfg) (host : Int) (i : Nat) : List Port := (c.ports.l.take i).filter (mine host)
def bxOf (p : Port) : Bx := ⟨p, [], 0, false⟩
def roomOf (c : Cfg) (host : Int) : List Bx := (portsF c host c.ports.l.length).map bxOf
theorem portsF_step (c : Cfg) (host : Int) {i : Nat} (hi : i < c.ports.l.length) : portsF c host (i + 1) = portsF c host i ++ if mine host (nth c.ports.l i) then [nth c.ports.l i] else [] := by
  unfold portsF
  rw [List.take_succ_eq_append_getElem hi, List.filter_append, ← nth_eq hi]
  congr 1
  rw [List.filter_cons]
  rfl
theorem portsF_mem {c : Cfg} {host : Int} {i : Nat} {p : Port} (h : p ∈ portsF c host i) : ∃ k, k < i ∧ k < c.ports.l.length ∧ nth c.ports.l k = p ∧ mine host p = true := by
  unfold portsF at h
  rw [List.mem_filter] at h
  obtain ⟨h1, h2⟩ := h
  obtain ⟨k, hk, e⟩ := List.getElem_of_mem h1
  rw [List.length_take] at hk
  refine ⟨k, by omega, by omega, ?_, h2⟩
  rw [nth_eq (by omega), ← e, List.getElem_take]
/-- Ports that may be have numbers that rise. -/
theorem port_rise {c : Cfg} : ∀ (i k : Nat), (∀ j, j < i + 1 → portS c j = 0) → k < i → (nth c.ports.l k).id < (nth c.ports.l i).id
  | 0, k, _, hk => by omega
  | i + 1, k, h, hk => by
    have h1 := (portS_zero (h (i + 1) (by omega))).2.2.1
    have h2 : (nth c.ports.l i).id < (nth c.ports.l (i + 1)).id := by
      simp only [Nat.add_sub_cancel] at h1
      omega
    rcases Nat.lt_or_ge k i with h3 | h3
    · have := port_rise i k (fun j hj => h j (by omega)) h3
      omega
    · obtain rfl : k = i := by omega
      exact h2
theorem nth_snoc {α : Type} [Inhabited α] (l : List α) (x : α) : nth (l ++ [x]) l.length = x := by
  rw [nth_eq (by simp)]; simp
theorem entsP_snoc {ps : List Port} {locs : List Nat} {p : Port} {l : Nat} (h : locs.length = ps.length) : entsP (ps ++ [p]) (locs ++ [l]) = entsP ps locs ++ [(p.id, (p, l), ps.length)] := by
  unfold entsP
  rw [List.length_append, List.length_singleton, List.range_succ, List.map_append]
  congr 1
  · apply List.map_congr_left
    intro k hk
    have hk := List.mem_range.1 hk
    rw [nth_append_left hk, nth_append_left (by omega)]
  · simp only [List.map_cons, List.map_nil]
    rw [nth_eq (by simp), nth_eq (by simp; omega)]
    simp [← h]
theorem mPut_new {κ α : Type} [DecidableEq κ] {l : List (κ × α × Nat)} {c : Nat} {a : κ} {v : α} (h : mGet l a = none) : mPut l c a v = l ++ [(a, v, c)] ∧ mClock l c a = c + 1 := by
  constructor
  · unfold mPut
    have : l.findIdx? (fun x => decide (x.1 = a)) = none := by
      unfold mGet at h
      rw [List.findIdx?_eq_none_iff]
      intro x hx
      have h2 : l.find? (fun x => decide (x.1 = a)) = none := by simpa using h
      simpa using List.find?_eq_none.1 h2 x hx
    rw [this]
  · unfold mClock; rw [h]; rfl

def locsO (n : Nat) (offs : List Nat) : List Nat := offs.map (n + 4 + ·)
theorem putPl {σ ρ : TS} {A B C : TObj} {ps : List Port} {locs : List Nat} {p : Port} {loc : Nat} (hl : locs.length = ps.length) (hnew : ∀ q ∈ ps, q.id ≠ p.id) :
    tmapUpdate (mkTab Tryz.prog) (σ ++ (A :: B :: .map (mEnt kI placeTV (entsP ps locs)) ps.length :: C :: ρ)) 144 (.map (σ.length + 2)) (.int .i64 p.id)
      (.agg [.int .i64 p.id, .int .i64 p.host, .int .i64 p.part, .int .i64 p.kind, .bool p.out, .int .i64 p.vl, .int .i64 p.sub, .int .i64 p.udp, .int .i64 p.size, .int .i64 p.depth, .int .i64 p.fresh, .iface (if p.kind = 1 then 194 else 197) (.ptr loc 0)]) =
    some (σ ++ (A :: B :: .map (mEnt kI placeTV (entsP (ps ++ [p]) (locs ++ [loc]))) (ps.length + 1) :: C :: ρ)) := by
  have hm : (σ ++ (A :: B :: .map (mEnt kI placeTV (entsP ps locs)) ps.length :: C :: ρ))[σ.length + 2]? = some (.map (mEnt kI placeTV (entsP ps locs)) ps.length) := by rw [get_app]; rfl
  have h1 := mapPut (kf := kI) (vf := placeTV) (a := p.id) (v := (p, loc)) tab144 rfl kI_law hm
  have hg : mGet (entsP ps locs) p.id = none := by
    rw [mGet_ents, idx_no fun j hj => hnew _ (nth_mem hj)]; rfl
  obtain ⟨h2, h3⟩ := mPut_new (v := (p, loc)) (c := ps.length) hg
  rw [h2, h3, set_app] at h1
  rw [entsP_snoc hl]
  exact h1

theorem new_walk (c : Cfg) (hf : FewC c) (host : Int) (hh : I64 host) (σ : TS) (hok : OkC c) (hhost : 0 ≤ host ∧ host < c.hosts) : TCalls Tryz.prog 24 [cfgTV c, .int .i64 host] σ fun v σ' =>
    v = .tup [.ptr (σ.length + 3) 0, .int .i64 0] ∧ ∃ (τ : TS) (offs : List Nat), σ' = σ ++ (.cells (cfgC c) :: .cells [.int .i64 0, .int .i64 0] :: .map (mEnt kI placeTV (entsP (portsF c host c.ports.l.length) (locsO σ.length offs))) (portsF c host c.ports.l.length).length :: .cells [.map (σ.length + 2)] :: τ) ∧
      offs.length = (portsF c host c.ports.l.length).length ∧ (∀ k, k < offs.length → τ[nth offs k]? = some (.cells (boxCells (nth (portsF c host c.ports.l.length) k)))) ∧ ∀ j k, j < k → k < offs.length → nth offs j < nth offs k := by
  have hck := fun τ => check_walk c hf τ
  rw [hok.check] at hck
  have hlp := hf.1.lports
  refine calls_of [] [.tmp 4, .tmp 5] Tryz.func24 (by kernel_rfl) rfl (by kernel_rfl) fun X hR hN => ?_
  show Tw _ _ _ _ ([some _, some _] ++ List.replicate 56 none) _
  simp only [List.replicate, List.cons_append, List.nil_append]
  have FK := zdum; have FD := zdum; have FL := zdum; have cA := @hck
  refine walk ?_
  (repeat' first | exact Lv.nil | apply Lv.cons) <;> (intros; clear cA FL FD FK)
  refine T_each (α := Nat × TS × List Nat) (fun (i, τ, offs) => [none, some (some (.int .i64 host)), none, none, none, none, none, none, some (some (.ptr (σ.length + 3) 0)), none, none, none, none, none, none, none, none, none, none, none, none, none, none, none, none, none, none, none, none, none, none, some (some (rowTV portC c.ports)), some (some (.int .i64 c.ports.l.length)), some (some (.int .i64 i)), none, none, none, none, none, none, none, none, none, none, none, none, none, none, none, none, none, none, none, none, none, none, none, none]) (fun (i, τ, offs) => i ≤ c.ports.l.length ∧ offs.length = (portsF c host i).length ∧ (∀ k, k < offs.length → τ[nth offs k]? = some (.cells (boxCells (nth (portsF c host i) k)))) ∧ (∀ j k, j < k → k < offs.length → nth offs j < nth offs k)) (fun (i, τ, offs) => c.ports.l.length - i) (fun (i, τ, offs) => σ ++ (.cells (cfgC c) :: .cells [.int .i64 0, .int .i64 0] :: .map (mEnt kI placeTV (entsP (portsF c host i) (locsO σ.length offs))) (portsF c host i).length :: .cells [.map (σ.length + 2)] :: τ)) ?_ ?_
  · refine ⟨(0, [], []), ⟨rfl, rfl, rfl, rfl, rfl, trivial⟩, ?_, rfl⟩
    exact ⟨by omega, rfl, fun k hk => by simp at hk, fun j k hj hk => by simp at hk⟩
  · rintro ⟨i, τ, offs⟩ q ⟨hi, hl, hc, hm⟩
    show Tw _ _ _ _ ([q 0, some (.int .i64 host), q 2, q 3, q 4, q 5, q 6, q 7, some (.ptr (σ.length + 3) 0), q 9, q 10, q 11, q 12, q 13, q 14, q 15, q 16, q 17, q 18, q 19, q 20, q 21, q 22, q 23, q 24, q 25, q 26, q 27, q 28, q 29, q 30, some (rowTV portC c.ports), some (.int .i64 c.ports.l.length), some (.int .i64 i), q 34, q 35, q 36, q 37, q 38, q 39, q 40, q 41, q 42, q 43, q 44, q 45, q 46, q 47, q 48, q 49, q 50, q 51, q 52, q 53, q 54, q 55, q 56, q 57]) (σ ++ (.cells (cfgC c) :: .cells [.int .i64 0, .int .i64 0] :: .map (mEnt kI placeTV (entsP (portsF c host i) (locsO σ.length offs))) (portsF c host i).length :: .cells [.map (σ.length + 2)] :: τ))
    rcases Nat.lt_or_ge i c.ports.l.length with hlt | hge
    · have hst := portsF_step c host hlt
      have hll : (locsO σ.length offs).length = (portsF c host i).length := by rw [locsO, List.length_map, hl]
      have hnew : ∀ q ∈ portsF c host i, q.id ≠ (nth c.ports.l i).id := fun q hq => by
        obtain ⟨k, h1, h2, rfl, _⟩ := portsF_mem hq
        have := port_rise i k (fun j hj => hok.ports j (by omega)) h1
        omega
      have hput := fun A B C ρ loc => putPl (σ := σ) (A := A) (B := B) (C := C) (ρ := ρ) (loc := loc) hll hnew
      have FK := zdum; have FD := @hput; have FL := zdum; have dA := @boxed_walk; have eA : Eord 11 [(0, 0), (1, 0), (2, 0), (3, 1), (4, 0), (5, 1), (6, 1), (7, 1), (8, 2), (9, 0), (10, 2)] := ⟨trivial⟩
      refine walk ?_
      (repeat' first | exact Lv.nil | apply Lv.cons) <;> (intros; clear eA dA FL FD FK)
      · have hmi : mine host (nth c.ports.l i) = true := by
          have h1 : (nth c.ports.l i).host = host := by assumption
          have h2 : (nth c.ports.l i).out = false := by assumption
          simp [mine, h1, h2]
        rw [hmi, if_pos rfl] at hst
        have hloc : locsO σ.length (offs ++ [τ.length + 2]) = locsO σ.length offs ++ [σ.length + (τ.length + 6)] := by simp [locsO]; omega
        have hlen : (offs ++ [τ.length + 2]).length = (portsF c host (i + 1)).length := by rw [hst, List.length_append, List.length_append, hl]; rfl
        refine ⟨(i + 1, τ ++ [.cells (portC (nth c.ports.l i)), .cells (portC (nth c.ports.l i)), .cells (boxCells (nth c.ports.l i))], offs ++ [τ.length + 2]), ?_, ⟨rfl, rfl, rfl, rfl, rfl, trivial⟩, ⟨?_, hlen, ?_, ?_⟩, ?_⟩
        · dsimp only; omega
        · omega
        · intro k hk
          dsimp only at hk ⊢
          rw [List.length_append, List.length_singleton] at hk
          rw [hst]
          rcases Nat.lt_or_ge k offs.length with hk' | hk'
          · have := hc k hk'
            rw [nth_append_left hk', nth_append_left (by omega), List.getElem?_append_left (lt_of_get this)]
            exact this
          · obtain rfl : k = offs.length := by omega
            rw [nth_snoc, hl, nth_snoc, get_app]; rfl
        · intro j k hj hk
          dsimp only at hk ⊢
          rw [List.length_append, List.length_singleton] at hk
          rcases Nat.lt_or_ge k offs.length with hk' | hk'
          · rw [nth_append_left hk', nth_append_left (by omega)]; exact hm j k hj hk'
          · obtain rfl : k = offs.length := by omega
            rw [nth_snoc, nth_append_left hj]
            have := lt_of_get (hc j hj)
            omega
        · dsimp only
          rw [hst, hloc, List.length_append, List.length_singleton]
      all_goals
        have hmi : mine host (nth c.ports.l i) = false := by
          by_cases h1 : (nth c.ports.l i).host = host
          · have h2 : (nth c.ports.l i).out = true := by first | assumption | exact absurd h1 (by assumption)
            simp [mine, h2]
          · simp [mine, h1]
        rw [hmi, if_neg (by simp), List.append_nil] at hst
        refine ⟨(i + 1, τ ++ [.cells (portC (nth c.ports.l i))], offs), ?_, ⟨rfl, rfl, rfl, rfl, rfl, trivial⟩, ⟨?_, ?_, ?_, hm⟩, ?_⟩
        · dsimp only; omega
        · omega
        · dsimp only; rw [hst]; exact hl
        · intro k hk
          dsimp only at hk ⊢
          have := hc k hk
          rw [hst, List.getElem?_append_left (lt_of_get this)]
          exact this
        · dsimp only
          rw [hst]
    · obtain rfl : i = c.ports.l.length := by omega
      have FK := zdum; have FD := zdum; have FL := zdum
      refine walk ?_
      (repeat' first | exact Lv.nil | apply Lv.cons) <;> (intros; clear FL FD FK)
      exact ⟨by first | rfl | trivial, τ, offs, rfl, hl, hc, hm⟩
end Go.Proofs.YtbhhmnfjjnnkiaaGreat
