/- An end system that sends begins. -/
import Derived.Test.YtbhhmnfjjnnkiaaGreatQ3
import Derived.Test.YtbhhmnfjjnnkiaaGreatM2
import Derived.Test.YtbhhmnfjjnnkiaaGreatG0
import Derived.Test.YtbhhmnfjjnnkiaaGreatG2
import Derived.Test.YtbhhmnfjjnnkiaaGreatF6
set_option linter.unusedVariables false
set_option linter.unusedSimpArgs false
set_option maxRecDepth 10000
set_option maxHeartbeats 4000000
namespace Go.Proofs.YtbhhmnfjjnnkiaaGreat
open Go.TM

/- maps of places by number -/
theorem entsL_snoc {ids : List Int} {locs : List Nat} {id : Int} {loc : Nat} (h : locs.length = ids.length) : entsL (ids ++ [id]) (locs ++ [loc]) = entsL ids locs ++ [(id, loc, ids.length)] := by
  unfold entsL
  rw [List.length_append, List.length_singleton, List.range_succ, List.map_append]
  congr 1
  · apply List.map_congr_left
    intro k hk
    have hk := List.mem_range.1 hk
    rw [nth_append_left hk, nth_append_left (by omega)]
  · simp only [List.map_cons, List.map_nil]
    rw [nth_eq (by simp), nth_eq (by simp; omega)]
    simp [← h]
theorem entsL_none {ids : List Int} {locs : List Nat} {a : Int} (h : ∀ x ∈ ids, x ≠ a) : mGet (entsL ids locs) a = none := by
  unfold mGet
  rw [Option.map_eq_none_iff, List.find?_eq_none]
  intro x hx
  obtain ⟨k, hk, rfl⟩ := List.mem_map.1 hx
  have := h _ (nth_mem (List.mem_range.1 hk))
  simpa using this
theorem entsL_some {ids : List Int} {locs : List Nat} {k : Nat} (hk : k < ids.length) (h : ∀ j, j < k → nth ids j ≠ nth ids k) : mGet (entsL ids locs) (nth ids k) = some (nth locs k) := by
  unfold mGet
  have : (entsL ids locs).find? (fun x => decide (x.1 = nth ids k)) = some (nth ids k, nth locs k, k) := by
    rw [List.find?_eq_some_iff_getElem]
    refine ⟨by simp, k, by simpa [entsL] using hk, by simp [entsL], fun j hj => ?_⟩
    have := h j hj
    simpa [entsL] using this
  rw [this]; rfl
theorem mPut_fresh {κ α : Type} [DecidableEq κ] {l : List (κ × α × Nat)} {c : Nat} {a : κ} {v : α} (h : mGet l a = none) : mPut l c a v = l ++ [(a, v, c)] ∧ mClock l c a = c + 1 := by
  constructor
  · unfold mPut
    have : l.findIdx? (fun x => decide (x.1 = a)) = none := by
      unfold mGet at h
      rw [List.findIdx?_eq_none_iff]
      intro x hx
      have h2 : l.find? (fun x => decide (x.1 = a)) = none := by simpa using h
      simpa using List.find?_eq_none.1 h2 x hx
    rw [this]
  · unfold mClock; rw [h]; rfl

/- which links are sent -/
theorem pairwise_nth {α : Type} [Inhabited α] {R : α → α → Prop} {l : List α} (h : ∀ i j, i < j → j < l.length → R (nth l i) (nth l j)) : l.Pairwise R := by
  rw [List.pairwise_iff_getElem]
  intro i j hi hj hij
  have := h i j hij hj
  rwa [nth_eq hi, nth_eq hj] at this
theorem nth_pairwise {α : Type} [Inhabited α] {R : α → α → Prop} {l : List α} (h : l.Pairwise R) {i j : Nat} (hij : i < j) (hj : j < l.length) : R (nth l i) (nth l j) := by
  have := (List.pairwise_iff_getElem.1 h) i j (by omega) hj hij
  rwa [nth_eq (by omega), nth_eq hj]
theorem vls_rise {c : Cfg} (hok : OkC c) : c.vls.l.Pairwise (fun a b => a.id < b.id) :=
  pairwise_nth fun i j hij hj => link_rise j i (fun k hk => hok.links k (by omega)) hij
theorem filter_rise {c : Cfg} (hok : OkC c) (p : Link → Bool) : (c.vls.l.filter p).Pairwise (fun a b => a.id < b.id) := (vls_rise hok).filter _
theorem someS_is {c : Cfg} (hok : OkC c) (p : Link → Bool) : riseS (someS c p) = (c.vls.l.filter p).map (·.id) := by
  have h1 : ((c.vls.l.filter p).map (·.id)).Pairwise (· < ·) := by
    rw [List.pairwise_map]; exact filter_rise hok p
  exact rise_unique (riseS_rises _).1 h1 (riseS_rises _).2
theorem findL_of {c : Cfg} (hok : OkC c) {v : Link} (hv : v ∈ c.vls.l) : findL c.vls.l v.id = some v := by
  obtain ⟨k, hk, rfl⟩ := List.getElem_of_mem hv
  rw [← nth_eq hk]
  exact findL_some hk (fun j hj => by have := nth_pairwise (vls_rise hok) hj hk; omega) rfl
structure LinkOk (c : Cfg) (v : Link) : Prop where
  id : 1 ≤ v.id ∧ v.id ≤ 65535
  host : IsHost c v.host
  bag : 0 ≤ v.bag ∧ v.bag ≤ 7
  smax : 64 ≤ v.smax ∧ v.smax ≤ 1518
  subs : 1 ≤ v.subs ∧ v.subs ≤ 4
  skew : 0 ≤ v.skew ∧ v.skew ≤ 1073741824
theorem link_ok {c : Cfg} (hok : OkC c) {v : Link} (hv : v ∈ c.vls.l) : LinkOk c v := by
  obtain ⟨k, hk, rfl⟩ := List.getElem_of_mem hv
  rw [← nth_eq hk]
  have h := (linkS_zero (hok.links k hk)).2.1
  have h : ¬ LinkOff c (nth c.vls.l k) := h
  unfold LinkOff at h
  exact ⟨by omega, by omega, by omega, by omega, by omega, by omega⟩
end Go.Proofs.YtbhhmnfjjnnkiaaGreat
