/- An end system that sends begins: walked. -/
import Derived.Test.YtbhhmnfjjnnkiaaGreatQ5
set_option linter.unusedVariables false
set_option linter.unusedSimpArgs false
set_option maxRecDepth 10000
set_option maxHeartbeats 4000000
namespace Go.Proofs.YtbhhmnfjjnnkiaaGreat
open Go.TM

theorem putLk {τ : TS} {lm : Nat} {ids : List Int} {locs : List Nat} {id : Int} (hm : τ[lm]? = some (.map (mEnt kI kP (entsL ids locs)) ids.length)) (hl : locs.length = ids.length) (hnew : ∀ x ∈ ids, x ≠ id) (loc : Nat) (ρ : TS) :
    tmapUpdate (mkTab Tryz.prog) (τ ++ ρ) 110 (.map lm) (.int .i64 id) (.ptr loc 0) = some (τ.set lm (.map (mEnt kI kP (entsL (ids ++ [id]) (locs ++ [loc]))) (ids.length + 1)) ++ ρ) := by
  have h1 := mapPut (kf := kI) (vf := kP) (a := id) (v := loc) tab110 rfl kI_law (σ := τ ++ ρ) (by rw [get_old (lt_of_get hm)]; exact hm)
  obtain ⟨h2, h3⟩ := mPut_fresh (v := loc) (c := ids.length) (entsL_none (locs := locs) hnew)
  rw [h2, h3, set_old (lt_of_get hm)] at h1
  rw [entsL_snoc hl]
  exact h1

abbrev idsOf (c : Cfg) (host : Int) : List Int := (linksOf c host).map (·.id)
abbrev endC (c : Cfg) (host : Int) (lm ln lg : Nat) : List TV := cfgC c ++ [.int .i64 host, .map lm, rowTV intC (rowOf (idsOf c host)), .ptr ln 0, .int .i64 0, .int .i64 0, .map lg, .int .i64 0, .nils]
attribute [go_sem] endC
structure TxPart (τ : TS) (lab : Nat → Nat) (c0 : Nat) (c : Cfg) (host : Int) (b x lm ln lg i : Nat) (locs : List Nat) : Prop where
  hb : τ[b]? = some (.cells (cfgC c))
  hx : τ[x]? = some (.cells (endC c host lm ln lg))
  hm : τ[lm]? = some (.map (mEnt kI kP (entsL ((idsOf c host).take i) locs)) ((idsOf c host).take i).length)
  hn : τ[ln]? = some (.cells line0C)
  hg : τ[lg]? = some (.map [] 0)
  ne : lm ≠ lg
  marks : lab x = c0 ∧ lab lm = c0 ∧ lab ln = c0 ∧ lab lg = c0
  len : locs.length = i
  le : i ≤ (linksOf c host).length
  lk : ∀ k, k < i → LkP τ lab (c0 + 1 + k) (nth locs k) (lk0 (nth (linksOf c host) k))

theorem turn_get {τ ρ : TS} {lm p : Nat} {o m : TObj} (h : τ[p]? = some o) (hne : p ≠ lm) : (τ.set lm m ++ ρ)[p]? = some o := by
  rw [List.getElem?_append_left (by simpa using lt_of_get h), List.getElem?_set_ne (Ne.symm hne)]; exact h
theorem TxPart.step {τ : TS} {lab : Nat → Nat} {c0 : Nat} {c : Cfg} {host : Int} {b x lm ln lg i : Nat} {locs : List Nat} (h : TxPart τ lab c0 c host b x lm ln lg i locs) (hi : i < (linksOf c host).length) (V : TObj) :
    TxPart (τ.set lm (.map (mEnt kI kP (entsL ((idsOf c host).take i ++ [(nth (linksOf c host) i).id]) (locs ++ [τ.length + 1]))) (((idsOf c host).take i).length + 1)) ++
      [V, .cells (linkC (nth (linksOf c host) i) ++ [.ptr (τ.length + 2) 0, .ptr (τ.length + 3) 0, .int .i64 0, .int .i64 0]), .cells (queues0C (nth (linksOf c host) i).subs 1024), .cells (gate0C (nth (linksOf c host) i).bag)])
      (labX lab τ.length (c0 + 1 + i)) c0 c host b x lm ln lg (i + 1) (locs ++ [τ.length + 1]) ∧
    Grow τ lab (τ.set lm (.map (mEnt kI kP (entsL ((idsOf c host).take i ++ [(nth (linksOf c host) i).id]) (locs ++ [τ.length + 1]))) (((idsOf c host).take i).length + 1)) ++
      [V, .cells (linkC (nth (linksOf c host) i) ++ [.ptr (τ.length + 2) 0, .ptr (τ.length + 3) 0, .int .i64 0, .int .i64 0]), .cells (queues0C (nth (linksOf c host) i).subs 1024), .cells (gate0C (nth (linksOf c host) i).bag)])
      (labX lab τ.length (c0 + 1 + i)) (· = c0) := by
  obtain ⟨hb, hx, hm, hn, hg, ne, ⟨m1, m2, m3, m4⟩, len, le, lk⟩ := h
  have hml := lt_of_get hm
  have hids : (idsOf c host).take (i + 1) = (idsOf c host).take i ++ [(nth (linksOf c host) i).id] := by
    have h1 : i < (idsOf c host).length := by simpa using hi
    rw [List.take_succ_eq_append_getElem h1]
    congr 2
    rw [nth_eq hi]; simp
  have hG := Grow.set (σ := τ) (lab := lab) (l := lm) (o := .map (mEnt kI kP (entsL ((idsOf c host).take i ++ [(nth (linksOf c host) i).id]) (locs ++ [τ.length + 1]))) (((idsOf c host).take i).length + 1))
    [V, .cells (linkC (nth (linksOf c host) i) ++ [.ptr (τ.length + 2) 0, .ptr (τ.length + 3) 0, .int .i64 0, .int .i64 0]), .cells (queues0C (nth (linksOf c host) i).subs 1024), .cells (gate0C (nth (linksOf c host) i).bag)] (C := (· = c0)) m2 (c0 + 1 + i)
  have nb : b ≠ lm := by rintro rfl; rw [hm] at hb; cases hb
  have nx : x ≠ lm := by rintro rfl; rw [hm] at hx; cases hx
  have nn : ln ≠ lm := by rintro rfl; rw [hm] at hn; cases hn
  refine ⟨⟨turn_get hb nb, turn_get hx nx, ?_, turn_get hn nn, turn_get hg (Ne.symm ne), ne, ⟨?_, ?_, ?_, ?_⟩, by simp [len], hi, fun k hk => ?_⟩, hG⟩
  · rw [hids, List.length_append, List.length_singleton, List.getElem?_append_left (by simpa using hml)]
    exact List.getElem?_set_self hml
  · rw [labX_old (lt_of_get hx)]; exact m1
  · rw [labX_old hml]; exact m2
  · rw [labX_old (lt_of_get hn)]; exact m3
  · rw [labX_old (lt_of_get hg)]; exact m4
  · rcases Nat.lt_or_ge k i with hk' | hk'
    · rw [nth_append_left (by omega)]
      exact (lk k hk').grow hG (by omega)
    · obtain rfl : k = i := by omega
      have : nth (locs ++ [τ.length + 1]) k = τ.length + 1 := by rw [← len]; exact nth_eq (by simp) |>.trans (by simp)
      rw [this]
      refine ⟨⟨τ.length + 2, τ.length + 3, .nils, .nils, .nils, .nils, labX_new (by omega), labX_new (by omega), labX_new (by omega), ?_, ?_, .nil, .nil, .nil, .nil, ?_⟩⟩
      · rw [get_app_1]; rfl
      · rw [get_app_1]; rfl
      · rw [get_app_1]; rfl
theorem TxPart.done {τ : TS} {lab : Nat → Nat} {c0 : Nat} {c : Cfg} {host : Int} {b x lm ln lg : Nat} {locs : List Nat} (h : TxPart τ lab c0 c host b x lm ln lg (linksOf c host).length locs) : TxP τ lab c0 x locs (tx0 c host) := by
  obtain ⟨hb, hx, hm, hn, hg, ne, ⟨m1, m2, m3, m4⟩, len, le, lk⟩ := h
  have e : (tx0 c host).ls.map (·.v.id) = idsOf c host := by
    show ((linksOf c host).map lk0).map (·.v.id) = _
    rw [List.map_map]; rfl
  have hl : (tx0 c host).ls.length = (linksOf c host).length := List.length_map _
  have ht : (idsOf c host).take (linksOf c host).length = idsOf c host := List.take_of_length_le (by simp)
  rw [ht] at hm
  refine ⟨⟨lm, ln, lg, .nils, .nils, m1, m2, m3, m4, ?_, ?_, hn, hg, .nil, .nil⟩, by rw [hl]; exact len, fun k hk => ?_⟩
  · rw [e]; exact hx
  · rw [e, hl]; rw [show (idsOf c host).length = (linksOf c host).length by simp] at hm; exact hm
  · rw [hl] at hk
    have : nth (tx0 c host).ls k = lk0 (nth (linksOf c host) k) := by
      show nth ((linksOf c host).map lk0) k = _
      rw [nth_eq (by simpa using hk), nth_eq hk, List.getElem_map]
    rw [this]; exact lk k hk
theorem Grow.turn {σ τ : TS} {lab lab' : Nat → Nat} {C : Nat → Prop} (h : Grow σ lab τ lab' C) {l : Nat} (hl : σ.length ≤ l) (o : TObj) (ρ : TS) (d : Nat) : Grow σ lab (τ.set l o ++ ρ) (labX lab' τ.length d) C :=
  ⟨by have := h.len; simp; omega, fun i hi => by rw [labX_old (Nat.lt_of_lt_of_le hi h.len)]; exact h.same i hi, fun i hi hc => by
    rw [List.getElem?_append_left (by have := h.len; simp; omega), List.getElem?_set_ne (by omega)]; exact h.keep i hi hc⟩
theorem TxPart.init {σ ρ : TS} {lab : Nat → Nat} {c0 : Nat} {c : Cfg} {host : Int} {a b d : Nat} (h0 : ρ[0]? = some (.cells (cfgC c))) (h5 : ρ[5]? = some (.cells (endC c host (σ.length + a) (σ.length + b) (σ.length + d))))
    (ha : ρ[a]? = some (.map [] 0)) (hb : ρ[b]? = some (.cells line0C)) (hd : ρ[d]? = some (.map [] 0)) (hne : a ≠ d) :
    ∃ lab1, TxPart (σ ++ ρ) lab1 c0 c host σ.length (σ.length + 5) (σ.length + a) (σ.length + b) (σ.length + d) 0 [] ∧ Grow σ lab (σ ++ ρ) lab1 (fun _ => False) ∧ σ.length ≤ σ.length + a :=
  ⟨labX lab σ.length c0, ⟨by rw [get_app0]; exact h0, by rw [get_app]; exact h5, by rw [get_app]; exact ha, by rw [get_app]; exact hb, by rw [get_app]; exact hd, by omega, ⟨labX_new (by omega), labX_new (by omega), labX_new (by omega), labX_new (by omega)⟩, rfl, Nat.zero_le _, fun k hk => by omega⟩,
    Grow.tail _ _ _, by omega⟩
end Go.Proofs.YtbhhmnfjjnnkiaaGreat
