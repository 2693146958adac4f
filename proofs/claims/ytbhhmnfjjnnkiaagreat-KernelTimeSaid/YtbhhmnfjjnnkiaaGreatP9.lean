/- How rooms begin: what holds of them. -/
import Derived.Test.YtbhhmnfjjnnkiaaGreatP8
set_option linter.unusedVariables false
set_option linter.unusedSimpArgs false
set_option maxRecDepth 10000
set_option maxHeartbeats 4000000
namespace Go.Proofs.YtbhhmnfjjnnkiaaGreat
open Go.TM

theorem new_bad (c : Cfg) (hf : FewC c) (host : Int) (σ : TS) (hb : (checkS c).2.2 ≠ 0) : TPure Tryz.prog 24 [cfgTV c, .int .i64 host] σ (.tup [.nilp, .int .i64 (checkS c).2.2]) := by
  have hck := fun τ => check_walk c hf τ
  refine pure_of [] [.tmp 4, .tmp 5] Tryz.func24 (by kernel_rfl) rfl (by kernel_rfl) fun X hR hN => ?_
  show Tw _ _ _ _ ([some _, some _] ++ List.replicate 56 none) _
  simp only [List.replicate, List.cons_append, List.nil_append]
  have FK := zdum; have FD := zdum; have FL := zdum; have cA := @hck
  refine walk ?_
  (repeat' first | exact Lv.nil | apply Lv.cons) <;> (intros; clear cA FL FD FK)
theorem new_out (c : Cfg) (hf : FewC c) (host : Int) (σ : TS) (hok : OkC c) (hb : ¬ (0 ≤ host ∧ host < c.hosts)) : TPure Tryz.prog 24 [cfgTV c, .int .i64 host] σ (.tup [.nilp, .int .i64 1]) := by
  have hck := fun τ => check_walk c hf τ
  rw [hok.check] at hck
  refine pure_of [] [.tmp 4, .tmp 5] Tryz.func24 (by kernel_rfl) rfl (by kernel_rfl) fun X hR hN => ?_
  show Tw _ _ _ _ ([some _, some _] ++ List.replicate 56 none) _
  simp only [List.replicate, List.cons_append, List.nil_append]
  have FK := zdum; have FD := zdum; have FL := zdum; have cA := @hck
  refine walk ?_
  (repeat' first | exact Lv.nil | apply Lv.cons) <;> (intros; clear cA FL FD FK)
theorem roomOf_len (c : Cfg) (host : Int) : (roomOf c host).length = (portsF c host c.ports.l.length).length := List.length_map _
theorem roomOf_nth {c : Cfg} {host : Int} {k : Nat} (hk : k < (roomOf c host).length) : nth (roomOf c host) k = bxOf (nth (portsF c host c.ports.l.length) k) := nth_map _ (by rw [roomOf_len] at hk; exact hk)
theorem roomOf_pts (c : Cfg) (host : Int) : pts (roomOf c host) = portsF c host c.ports.l.length := by
  unfold pts roomOf
  rw [List.map_map]
  exact List.map_id' _
theorem roomOf_ok {c : Cfg} {host : Int} (hc : c.ok) (hok : OkC c) : ∀ b ∈ roomOf c host, b.ok := by
  intro b hb
  obtain ⟨p, hp, rfl⟩ := List.mem_map.1 hb
  obtain ⟨k, _, hk, rfl, hm⟩ := portsF_mem hp
  obtain ⟨_, hpo, _, v, hv, hhost, hpv, _⟩ := portS_zero (hok.ports k hk)
  obtain ⟨q1, q2, q3, q4, q5, q6, q7, q8, q9, q10⟩ := hc.ports _ (nth_mem hk)
  have ho : (nth c.ports.l k).out = false := by simp [mine] at hm; exact hm.2
  unfold portV at hpv
  split at hpv
  · cases hpv
  split at hpv
  · cases hpv
  split at hpv
  · cases hpv
  split at hpv
  · cases hpv
  refine ⟨by show (nth c.ports.l k).kind = 1 ∨ (nth c.ports.l k).kind = 2; omega, fun _ => by simp [bxOf], ⟨by simp [bxOf], by simp [bxOf]⟩, by simp [bxOf], ?_, q10, q8⟩
  show (nth c.ports.l k).depth ≤ 64
  omega

/-- The marks of a heap behind which things of a room were laid. -/
def labR (lab : Nat → Nat) (n c0 : Nat) (locs : List Nat) : Nat → Nat := fun i => if i < n then lab i else match locs.findIdx? (· == i) with
  | some k => c0 + 1 + k
  | none => c0
theorem findIdx_mono {locs : List Nat} (hm : ∀ j k, j < k → k < locs.length → nth locs j < nth locs k) {k : Nat} (hk : k < locs.length) : locs.findIdx? (· == nth locs k) = some k := by
  rw [List.findIdx?_eq_some_iff_getElem]
  refine ⟨hk, by rw [nth_eq hk]; simp, fun j hj => ?_⟩
  have := hm j k hj hk
  rw [← nth_eq (by omega)]
  simp
  omega
theorem findIdx_low {locs : List Nat} {n i : Nat} (hlo : ∀ k, k < locs.length → n ≤ nth locs k) (hi : i < n) : locs.findIdx? (· == i) = none := by
  rw [List.findIdx?_eq_none_iff]
  intro x hx
  obtain ⟨k, hk, rfl⟩ := List.getElem_of_mem hx
  have := hlo k hk
  rw [nth_eq hk] at this
  simp
  omega
theorem labR_box {lab : Nat → Nat} {n c0 : Nat} {locs : List Nat} (hm : ∀ j k, j < k → k < locs.length → nth locs j < nth locs k) (hlo : ∀ k, k < locs.length → n ≤ nth locs k) {k : Nat} (hk : k < locs.length) : labR lab n c0 locs (nth locs k) = c0 + 1 + k := by
  unfold labR
  rw [if_neg (by have := hlo k hk; omega), findIdx_mono hm hk]
theorem labR_top {lab : Nat → Nat} {n c0 m i : Nat} {locs : List Nat} (hlo : ∀ k, k < locs.length → m ≤ nth locs k) (hi : i < m) (hn : n ≤ i) : labR lab n c0 locs i = c0 := by
  unfold labR
  rw [if_neg (by omega), findIdx_low hlo hi]

theorem room_begin {c : Cfg} {host : Int} (hc : c.ok) (hok : OkC c) {σ τ : TS} {A B : TObj} {offs : List Nat} (lab : Nat → Nat) (c0 : Nat) (hl : offs.length = (portsF c host c.ports.l.length).length)
    (hb : ∀ k, k < offs.length → τ[nth offs k]? = some (.cells (boxCells (nth (portsF c host c.ports.l.length) k)))) (hm : ∀ j k, j < k → k < offs.length → nth offs j < nth offs k) :
    ∃ lab', RoomP (σ ++ (A :: B :: .map (mEnt kI placeTV (entsP (portsF c host c.ports.l.length) (locsO σ.length offs))) (portsF c host c.ports.l.length).length :: .cells [.map (σ.length + 2)] :: τ)) lab' c0 (σ.length + 3) (σ.length + 2) (locsO σ.length offs) (roomOf c host) ∧
      Grow σ lab (σ ++ (A :: B :: .map (mEnt kI placeTV (entsP (portsF c host c.ports.l.length) (locsO σ.length offs))) (portsF c host c.ports.l.length).length :: .cells [.map (σ.length + 2)] :: τ)) lab' (fun _ => False) := by
  have hll : (locsO σ.length offs).length = offs.length := List.length_map _
  have hn : ∀ k, k < offs.length → nth (locsO σ.length offs) k = σ.length + 4 + nth offs k := fun k hk => nth_map _ hk
  have hmono : ∀ j k, j < k → k < (locsO σ.length offs).length → nth (locsO σ.length offs) j < nth (locsO σ.length offs) k := fun j k hj hk => by
    rw [hn j (by omega), hn k (by omega)]
    have := hm j k hj (by omega)
    omega
  have hlo4 : ∀ k, k < (locsO σ.length offs).length → σ.length + 4 ≤ nth (locsO σ.length offs) k := fun k hk => by rw [hn k (by omega)]; omega
  have hlo : ∀ k, k < (locsO σ.length offs).length → σ.length ≤ nth (locsO σ.length offs) k := fun k hk => by have := hlo4 k hk; omega
  refine ⟨labR lab σ.length c0 (locsO σ.length offs), ⟨labR_top hlo4 (by omega) (by omega), by rw [get_app]; rfl, labR_top hlo4 (by omega) (by omega), ?_, by rw [hll, roomOf_len]; exact hl, ?_, roomOf_ok hc hok⟩, ⟨by simp, fun i hi => if_pos hi, fun i hi _ => List.getElem?_append_left hi⟩⟩
  · rw [get_app, roomOf_pts, roomOf_len]; rfl
  · intro k hk
    have hk' : k < offs.length := by rw [roomOf_len] at hk; omega
    rw [roomOf_nth hk]
    refine ⟨labR_box hmono hlo (by omega), ?_⟩
    have hget : (σ ++ (A :: B :: .map (mEnt kI placeTV (entsP (portsF c host c.ports.l.length) (locsO σ.length offs))) (portsF c host c.ports.l.length).length :: .cells [.map (σ.length + 2)] :: τ))[nth (locsO σ.length offs) k]? = some (.cells (boxCells (nth (portsF c host c.ports.l.length) k))) := by
      rw [hn k hk', show σ.length + 4 + nth offs k = σ.length + (nth offs k + 4) by omega, get_app]
      exact hb k hk'
    rw [hget]
    by_cases hkind : (nth (portsF c host c.ports.l.length) k).kind = 1
    · rw [if_pos (by exact hkind), boxCells, if_pos hkind]; rfl
    · rw [if_neg (by exact hkind), boxCells, if_neg hkind]
      exact ⟨.nils, rfl, .inl ⟨rfl, rfl⟩⟩

/-- A room of the program begins. -/
theorem own_new (c : Cfg) (hf : FewC c) (host : Int) (hh : I64 host) (σ : TS) (lab : Nat → Nat) (c0 : Nat) (hok : OkC c) (hhost : 0 ≤ host ∧ host < c.hosts) : TCalls Tryz.prog 24 [cfgTV c, .int .i64 host] σ fun v σ' =>
    ∃ r lm locs lab', v = .tup [.ptr r 0, .int .i64 0] ∧ RoomP σ' lab' c0 r lm locs (roomOf c host) ∧ Grow σ lab σ' lab' (fun _ => False) := by
  refine (new_walk c hf host hh σ hok hhost).mono fun v σ' q => ?_
  obtain ⟨rfl, τ, offs, rfl, h1, h2, h3⟩ := q
  obtain ⟨lab', h4, h5⟩ := room_begin hf.1 hok (σ := σ) (τ := τ) (A := .cells (cfgC c)) (B := .cells [.int .i64 0, .int .i64 0]) lab c0 h1 h2 h3
  exact ⟨_, _, _, lab', rfl, h4, h5⟩

end Go.Proofs.YtbhhmnfjjnnkiaaGreat
