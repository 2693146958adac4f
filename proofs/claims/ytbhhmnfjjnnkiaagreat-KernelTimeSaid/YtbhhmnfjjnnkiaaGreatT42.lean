/- The T-machine, part 42: a row of integers that a call turns in place (sorts, compacts), and a row that is handed back: it is frozen, and is by value from then on. -/
import Derived.Test.YtbhhmnfjjnnkiaaGreatT50
import Derived.Sort.Grow
set_option linter.unusedSimpArgs false
set_option linter.unusedVariables false
namespace Go.TM
open Go.RowKit (Below)
open Go.Sort (putRow Holds onCells putCells mapBlock grow)

theorem VRL.ints {g : G} {σ : TS} : ∀ {zs : List Int} {vs : List Value}, VRL g σ (zs.map (TV.int .i64)) vs → vs = zs.map (Value.int .i64)
  | [], vs, h => by simpa only [List.map_nil, VRL] using h
  | z :: zs, vs, h => by
    simp only [List.map_cons, VRL, VR] at h
    obtain ⟨v, r, rfl, rfl, h3⟩ := h
    rw [VRL.ints h3]; rfl
theorem VRL.ofInts {g : G} {σ : TS} : ∀ (zs : List Int), VRL g σ (zs.map (TV.int .i64)) (zs.map (Value.int .i64))
  | [] => by simp only [List.map_nil, VRL]
  | z :: zs => by
    simp only [List.map_cons, VRL, VR]
    exact ⟨_, _, rfl, rfl, VRL.ofInts zs⟩

/-- What a call that turns a row of integers in place does. -/
theorem row_does {P : Program} {f : FuncId} {σ : TS} {l : Nat} {zs ds : List Int} {v : TV} {ret : Nat → Nat → Nat → Value} (hE : Enters P f)
    (hl : σ[l]? = some (.row (zs.map (TV.int .i64)))) (hz : zs ≠ []) (hd : ds.length = zs.length)
    (hc : ∀ (blk off cap : Nat) (w : World), Holds (Value.int .i64) w blk off zs.toArray → blk < w.heap.size → zs.length ≤ cap →
      Calls P f #[.slice (some ⟨blk, off, none⟩) zs.length cap] w fun e w' => e = .returned (ret blk off cap) ∧ ∃ n os, w' = grow (putRow (Value.int .i64) (Sort.ahead w n) blk off ds.toArray) os)
    (hv : ∀ (g : G) (blk cap base n : Nat), g.ν l = some (blk, base, n) → cap ≤ n → zs.length ≤ cap → VR g (σ.set l (.row (ds.map (TV.int .i64)))) v (ret blk base cap)) :
    TDoes P f [.rs l 0 zs.length 1] σ v (σ.set l (.row (ds.map (TV.int .i64)))) := by
  refine ⟨hE, fun g w va hw hva => ?_⟩
  simp only [VRL, VR] at hva
  obtain ⟨v1, r1, e1, ⟨hlt, b, o', cap, rfl, hle, hrow⟩, rfl⟩ := hva
  obtain rfl : va = #[.slice (some ⟨b, o', none⟩) zs.length cap] := Array.toList_inj.1 e1
  obtain ⟨base, n, hn, ho, hcn⟩ := hrow _ hl
  have hzl : 0 < zs.length := List.length_pos_iff.2 hz
  obtain rfl : o' = base := by have := ho (by omega); omega
  obtain ⟨b0, base0, n0, m1, m2⟩ := hw.row l _ hl
  rw [hn] at m1
  simp only [Option.some.injEq, Prod.mk.injEq] at m1
  obtain ⟨rfl, rfl, rfl⟩ := m1
  obtain ⟨c, e, fz, vs, q1, q2, q3, q4, q5, q6, q7⟩ := m2.cells
  obtain rfl := VRL.ints q5
  rw [List.length_map] at q3
  have hH : Holds (Value.int .i64) w b o' zs.toArray := fun j hj => by
    have hj : j < zs.length := by simpa using hj
    have hcell := q7 j (.int .i64 zs[j]) (by simp [hj])
    refine ⟨?_, ?_⟩
    · simp only [World.cell?, q1]
      simpa [hj] using hcell
    · have := q4 j (by omega)
      simp only [World.frozen?, q1]
      simpa using this
  refine (hc b o' cap w hH m2.new.2 hle).mono fun ee w' hx => ?_
  obtain ⟨rfl, k, os, rfl⟩ := hx
  have hb1 : (putRow (Value.int .i64) (Sort.ahead w k) b o' ds.toArray).heap[b]? = some (.cells (putCells (Value.int .i64) o' ds.toArray c) e fz) := by
    simp [putRow, mapBlock, Sort.ahead, Array.getElem?_modify, q1, onCells]
  have hs := WR.setRow (w' := putRow (Value.int .i64) (Sort.ahead w k) b o' ds.toArray) (cs' := ds.map (TV.int .i64)) hw hl hn (by simp [putRow, mapBlock, Sort.ahead]) rfl rfl rfl
    (fun k' hk => by simp [putRow, mapBlock, Sort.ahead, Array.getElem?_modify, Ne.symm hk])
    ⟨_, e, fz, ds.map (Value.int .i64), hb1, by simpa [putCells] using q2, by rw [List.length_map, hd]; exact q3, q4, VRL.ofInts ds, fun v hv => by
      obtain ⟨z, _, rfl⟩ := List.mem_map.1 hv; rfl, fun i v hv => by
      have hi : i < ds.length := by have := (List.getElem?_eq_some_iff.1 hv).1; simpa using this
      have hsz : o' + i < c.size := by omega
      rw [List.getElem?_map, List.getElem?_eq_getElem hi] at hv
      simp only [Option.map_some, Option.some.injEq] at hv
      subst hv
      simp [putCells, hsz, hi]⟩
  have hgrow : Below (putRow (Value.int .i64) (Sort.ahead w k) b o' ds.toArray).heap.size (putRow (Value.int .i64) (Sort.ahead w k) b o' ds.toArray) (grow (putRow (Value.int .i64) (Sort.ahead w k) b o' ds.toArray) os) :=
    ⟨rfl, rfl, rfl, by simp, fun k' hk => Sort.heap_grow_old _ _ hk⟩
  exact ⟨_, v, _, g, rfl, hs.2, hs.1.grow hgrow, hv g b cap o' n hn (by omega) hle, rfl, rfl⟩

/-- A row is handed back: nobody turns it any more. -/
theorem WR.freeze {g : G} {σ : TS} {w : World} {l b base n : Nat} {cs : List TV} (hw : WR g σ w) (hl : σ[l]? = some (.row cs)) (hn : g.ν l = some (b, base, n)) :
    ∃ g', WR g' (σ.set l .dead) w ∧ Ext g σ g' (σ.set l .dead) ∧ ∃ vs, VRL g σ cs vs ∧ Kept g' b base vs := by
  obtain ⟨hk, hx⟩ := hw.kill hl
  have hu := hw.killed hl hn
  obtain ⟨b0, base0, n0, m1, m2⟩ := hw.row l _ hl
  rw [hn] at m1
  simp only [Option.some.injEq, Prod.mk.injEq] at m1
  obtain ⟨rfl, rfl, rfl⟩ := m1
  obtain ⟨c, e, fz, vs, q1, q2, q3, q4, q5, q6, q7⟩ := m2.cells
  have hx2 : Ext g (σ.set l .dead) { g with κ := keepMore g.κ b base vs } (σ.set l .dead) := by
    refine ⟨rfl, fun _ _ h => h, fun b' o v e => ?_, fun t k sz e => ⟨k, e, .inr ⟨rfl, rfl⟩⟩, Nat.le_refl _, fun _ _ => rfl, fun l cs _ h => ⟨cs, h, rfl⟩⟩
    show keepMore _ _ _ _ _ _ = _
    unfold keepMore
    rw [if_neg]
    · exact e
    · rintro ⟨rfl, _⟩
      rw [hu.κ] at e; cases e
  refine ⟨{ g with κ := keepMore g.κ b base vs }, ⟨hk.below, ?_, fun l x e => (hk.obj l x e).ghost hx2, hk.inj, hk.new, ?_, ?_, hk.tokinj, hk.toksep, fun l' cs' e => ?_, hk.rowinj⟩, hx.trans hx2, vs, q5, fun i v e => ?_⟩
  · intro b' o v e
    simp only [keepMore] at e
    split at e
    · rename_i hc
      obtain ⟨rfl, h1, h2⟩ := hc
      have := q7 _ v e
      refine ⟨?_, q6 v (List.mem_of_getElem? e)⟩
      simp only [World.cell?, q1]
      rw [show base + (o - base) = o by omega] at this
      simpa using this
    · exact hk.keep b' o v e
  · intro l x e o
    show keepMore _ _ _ _ _ _ = _
    unfold keepMore
    rw [if_neg (by rintro ⟨rfl, _⟩; exact hu.ρ _ e)]
    exact hk.sep l x e o
  · intro t x e n e'
    obtain ⟨k1, k2, k, sz, k3, k4⟩ := hk.tok t x e n e'
    refine ⟨k1, k2, k, sz, k3, fun j hj => ?_⟩
    obtain ⟨m1, m2, m3⟩ := k4 j hj
    refine ⟨?_, m2, m3⟩
    show keepMore _ _ _ _ _ _ = _
    unfold keepMore
    rw [if_neg (by rintro ⟨rfl, _⟩; exact hu.ω _ _ _ e')]
    exact m1
  · obtain ⟨b', base', n', p1, p2⟩ := hk.row l' cs' e
    refine ⟨b', base', n', p1, p2.ghost hx2 (fun o => ?_) p2.ρ p2.ω⟩
    show keepMore _ _ _ _ _ _ = _
    unfold keepMore
    rw [if_neg (by rintro ⟨rfl, _⟩; exact hu.ν _ _ e _ _ p1)]
    exact p2.κ o
  · show keepMore _ _ _ _ _ _ = _
    have hi := (List.getElem?_eq_some_iff.1 e).1
    unfold keepMore
    rw [if_pos ⟨rfl, by omega, by omega⟩, show base + i - base = i by omega]
    exact e

/-- A call that answers a row of its own. -/
theorem TCalls.freeze {P : Program} {f : FuncId} {args : List TV} {σ : TS} {n : Nat} {m : List TV}
    (h : TCalls P f args σ fun tv s => ∃ τ l cs, s = σ ++ τ ∧ σ.length ≤ l ∧ tv = .rs l 0 n 1 ∧ s[l]? = some (.row cs) ∧ cs.take n = m)
    (hfit : TV.fits 0 (TV.sl none n m).free = true) (hfree : (TV.sl none n m).free = .sl none n m) : TPure P f args σ (.sl none n m) := by
  have h2 : TCalls P f args σ fun tv s => (∃ τ, s = σ ++ τ) ∧ tv = .sl none n m := by
    refine ⟨h.1, fun g w va hw hv => (h.2 g w va hw hv).mono fun e w' hx => ?_⟩
    obtain ⟨v, tv, s, g', rfl, h2, h3, h4, τ, l, cs, rfl, h6, rfl, h8, h9⟩ := hx
    simp only [VR] at h4
    obtain ⟨hlt, b, o', cap, rfl, hle, hrow⟩ := h4
    obtain ⟨base, k, hn, ho, hcn⟩ := hrow _ h8
    obtain ⟨g2, k1, k2, vs, k3, k4⟩ := h3.freeze h8 hn
    have k5 := (VRL.mono k2 _ _ (k3.take n))
    rw [h9] at k5
    have hset : (σ ++ τ).set l .dead = σ ++ τ.set (l - σ.length) .dead := List.set_append_right _ _ h6
    refine ⟨_, .sl none n m, _, g2, rfl, h2.trans k2, k1, ?_, ⟨_, hset⟩, rfl⟩
    simp only [VR]
    by_cases hc : cap = 0
    · obtain rfl : n = 0 := by omega
      rw [List.take_zero] at k5
      exact ⟨_, _, [], rfl, hle, fun i v e => by simp at e, .inl rfl, k5, trivial⟩
    · obtain rfl : o' = base := by have := ho hc; omega
      exact ⟨_, _, vs.take n, rfl, hle, fun i v e => k4 i v (by
        have hi : i < n := by have := (List.getElem?_eq_some_iff.1 e).1; simp at this; omega
        rwa [List.getElem?_take_of_lt hi] at e), .inl rfl, k5, trivial⟩
  exact TCalls.pure h2 fun tv s q => by
    obtain ⟨⟨τ, rfl⟩, rfl⟩ := q
    exact ⟨⟨τ, rfl⟩, hfit, hfree, rfl⟩

section
variable {T : Tab} {σ : TS} {st xt e : TypeId} {i j : TI} {z : TV} {x : TV} {k n l : Nat} {new cs : List TV}
theorem appR_nil (hT : T st = some i) (hk : i.k = .slice e) (hE : T e = some j) (hz : j.zero = some z) (hzl : z.cells.length = j.size) (hsrc : tsrc T σ j.size xt x = some (k, new)) (hone : new.all TV.one = true) (hlen : new.length = k * j.size)
    (h0 : k ≠ 0) (hb : k * j.bytes ≤ 140737488355328) (hb2 : k ≤ 9223372036854775807) :
    tappendR T σ st xt .nils x = some (.rs σ.length 0 k j.size, σ ++ [.row new]) := by
  unfold tappendR
  simp only [hT, hk, hE, hz, hsrc]
  rw [if_pos ⟨hzl, hone, hlen, h0⟩, if_pos ⟨hb, hb2⟩]
theorem appR_row (hT : T st = some i) (hk : i.k = .slice e) (hE : T e = some j) (hz : j.zero = some z) (hzl : z.cells.length = j.size) (hsrc : tsrc T σ j.size xt x = some (k, new)) (hone : new.all TV.one = true) (hlen : new.length = k * j.size)
    (h0 : k ≠ 0) (hr : σ[l]? = some (.row cs)) (hc : cs.length = n * j.size) (hb : (n + k) * j.bytes ≤ 140737488355328) (hb2 : n + k ≤ 9223372036854775807) :
    tappendR T σ st xt (.rs l 0 n j.size) x = some (.rs σ.length 0 (n + k) j.size, σ.set l .dead ++ [.row (cs ++ new)]) := by
  unfold tappendR
  simp only [hT, hk, hE, hz, hsrc]
  rw [if_pos ⟨hzl, hone, hlen, h0⟩]
  simp only [hr]
  rw [if_pos ⟨trivial, by omega, hb, hb2⟩, List.drop_zero, List.take_of_length_le (by omega)]
end
end Go.TM
