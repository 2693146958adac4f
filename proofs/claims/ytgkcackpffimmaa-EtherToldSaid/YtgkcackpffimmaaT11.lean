/- The T-machine, part 11: arguments that are read as data are trees; a law's statement out of calls over trees. -/
import Derived.Test.YtgkcackpffimmaaT10
import Derived.ProofKit
import Derived.OpenShut
import Derived.ChangeOld
set_option linter.unusedVariables false
namespace Go.TM
open Go.RowKit (Below)

/-- The ghost of a world at a call's begin: all its cells stay. -/
def g0 (W : World) : G where
  w0 := W
  ρ := fun _ => none
  κ := fun b o => match W.cell? ⟨b, o, none⟩ with
    | some v => if v.oneCell' = true then some v else none
    | none => none
  ω := fun _ => none

theorem g0_kept {W : World} {b o : Nat} {v : Value} (h : W.cell? ⟨b, o, none⟩ = some v) (h1 : v.oneCell' = true) : (g0 W).κ b o = some v := by
  simp only [g0, h, h1, if_true]

theorem g0_WR (W : World) : WR (g0 W) [] W where
  below := Below.refl _ _
  keep b o v e := by
    simp only [g0] at e
    split at e
    · rename_i u hu
      split at e
      · cases e; exact ⟨hu, by assumption⟩
      · cases e
    · cases e
  obj l b e := by simp [g0] at e
  inj l l' b e := by simp [g0] at e
  new l b e := by simp [g0] at e
  sep l b e := by simp [g0] at e
  tok t b e n h := by simp [g0] at h
  tokinj t t' b e n e' n' h := by simp [g0] at h
  toksep t l b e n h := by simp [g0] at h

def tiles (T : Tab) : List (TypeId × Nat) → Nat → Option Nat
  | [], off => some off
  | (t, o) :: fs, off => match T t with
    | some j => if o = off then tiles T fs (off + j.size) else none
    | none => none

def plainT (T : Tab) : Nat → TypeId → Bool
  | 0, _ => false
  | d + 1, t => match T t with
    | none => false
    | some i => match i.k with
      | .bool => true
      | .int _ => true
      | .str => true
      | .slice e => plainT T d e && (match T e with | some j => j.size != 0 | none => false)
      | .struct fs _ => tiles T fs 0 == some i.size && fs.all fun f => plainT T d f.1
      | .arr n e => plainT T d e && (match T e with | some j => i.size == n * j.size | none => false)
      | _ => false

/-- Cells that are of a type. -/
def Ty (T : Tab) : Nat → TypeId → List TV → Prop
  | 0, _, _ => False
  | d + 1, t, cs => match T t with
    | none => False
    | some i => match i.k with
      | .bool => ∃ b, cs = [.bool b]
      | .int k => ∃ n, cs = [.int k n] ∧ k.min ≤ n ∧ n ≤ k.max
      | .str => ∃ s, cs = [.str s] ∧ s.size ≤ 9223372036854775807
      | .slice e => cs = [.nils] ∨ ∃ len xs, cs = [.sl none len xs] ∧ len ≤ 9223372036854775807 ∧ match T e with
        | some j => xs.length = len * j.size ∧ xs.all TV.one = true ∧ ∀ i, i < len → Ty T d e ((xs.drop (i * j.size)).take j.size)
        | none => False
      | .struct fs _ => cs.length = i.size ∧ ∀ f ∈ fs, match T f.1 with
        | some j => Ty T d f.1 ((cs.drop f.2).take j.size)
        | none => False
      | .arr n e => match T e with
        | some j => cs.length = n * j.size ∧ ∀ i, i < n → Ty T d e ((cs.drop (i * j.size)).take j.size)
        | none => False
      | _ => False

section
variable {P : Program} {W : World} {g : G} {σ : TS}

theorem cellsOf_tab {t : TypeId} {i : TI} (h : mkTab P t = some i) : P.cellsOf t = i.size := by
  obtain ⟨info, d, k1, k2, k3, k4, _⟩ := mkTab_sound h
  simp [Program.cellsOf, k1, k4]

theorem mapM_get {α β : Type} {f : α → Option β} : ∀ {l : List α} {r : List β}, l.mapM f = some r → ∀ {i : Nat} {a : α}, l[i]? = some a → ∃ b, f a = some b ∧ r[i]? = some b
  | [], r, h, i, a, e => by simp at e
  | x :: xs, r, h, i, a, e => by
    simp only [List.mapM_cons, Option.bind_eq_bind, Option.pure_def] at h
    cases hx : f x with
    | none => simp [hx] at h
    | some y =>
      cases hr : xs.mapM f with
      | none => simp [hx, hr] at h
      | some ys =>
        simp [hx, hr] at h
        subst h
        cases i with
        | zero => simp at e; subst e; exact ⟨y, hx, by simp⟩
        | succ i =>
          simp at e
          obtain ⟨b, h1, h2⟩ := mapM_get hr e
          exact ⟨b, h1, by simpa using h2⟩

theorem tile_open (d : Nat) (cs : List Value) (Pd : TypeId → List TV → Prop) : ∀ (fs : List (TypeId × Nat)) (off tot : Nat), tiles (mkTab P) fs off = some tot → tot ≤ cs.length →
    (∀ f ∈ fs, ∀ j, mkTab P f.1 = some j → ∃ tf, VRL g σ tf ((cs.drop f.2).take j.size) ∧ tf.all TV.one = true ∧ Pd f.1 tf) →
    ∃ tcs, VRL g σ tcs ((cs.drop off).take (tot - off)) ∧ tcs.all TV.one = true ∧ off ≤ tot ∧ ∀ f ∈ fs, off ≤ f.2 ∧ ∃ j, mkTab P f.1 = some j ∧ Pd f.1 ((tcs.drop (f.2 - off)).take j.size)
  | [], off, tot, h, hl, _ => by
    simp only [tiles, Option.some.injEq] at h; subst h
    exact ⟨[], by simp [VRL], rfl, Nat.le_refl _, fun f hf => by cases hf⟩
  | (t, o) :: fs, off, tot, h, hl, hf => by
    simp only [tiles] at h
    split at h
    · rename_i j hj
      split at h
      · rename_i ho
        subst ho
        obtain ⟨tcs, h1, h2, h3, h4⟩ := tile_open d cs Pd fs (o + j.size) tot h hl fun f hm j' hj' => hf f (List.mem_cons_of_mem _ hm) j' hj'
        obtain ⟨tf, q1, q2, q3⟩ := hf (t, o) (List.mem_cons_self ..) j hj
        have hlen : tf.length = j.size := by
          have := q1.length
          rw [← this]
          simp
          omega
        have hcat : ((cs.drop o).take j.size) ++ ((cs.drop (o + j.size)).take (tot - (o + j.size))) = (cs.drop o).take (tot - o) := by
          rw [show tot - o = j.size + (tot - (o + j.size)) by omega, List.take_add, List.drop_drop]
        refine ⟨tf ++ tcs, by rw [← hcat]; exact q1.append h1, by rw [List.all_append, q2, h2]; rfl, by omega, fun f hm => ?_⟩
        rcases List.mem_cons.1 hm with rfl | hm
        · refine ⟨Nat.le_refl _, j, hj, ?_⟩
          rw [Nat.sub_self, List.drop_zero, ← hlen, List.take_left]
          exact q3
        · obtain ⟨p1, j', p2, p3⟩ := h4 f hm
          refine ⟨by omega, j', p2, ?_⟩
          have : (tf ++ tcs).drop (f.2 - o) = tcs.drop (f.2 - (o + j.size)) := by
            rw [show f.2 - o = tf.length + (f.2 - (o + j.size)) by omega, ← List.drop_drop, List.drop_left]
          rw [this]
          exact p3
      · cases h
    · cases h

theorem row_open (Pd : List TV → Prop) (sz : Nat) (cell : Nat → List Value) : ∀ (n : Nat), (∀ i, i < n → ∃ tf, VRL g σ tf (cell i) ∧ tf.all TV.one = true ∧ Pd tf ∧ (cell i).length = sz) →
    ∃ tcs vs, VRL g σ tcs vs ∧ tcs.all TV.one = true ∧ tcs.length = n * sz ∧ (∀ i, i < n → Pd ((tcs.drop (i * sz)).take sz)) ∧ (∀ i, i < n → (vs.drop (i * sz)).take sz = cell i)
  | 0, _ => ⟨[], [], by simp [VRL], rfl, by simp, fun i hi => by omega, fun i hi => by omega⟩
  | n + 1, h => by
    obtain ⟨tcs, vs, h1, h2, h3, h4, h5⟩ := row_open Pd sz cell n fun i hi => h i (by omega)
    obtain ⟨tf, q1, q2, q3, q4⟩ := h n (by omega)
    have hlen : tf.length = sz := by rw [← q4]; exact q1.length.symm
    have hvl : vs.length = n * sz := by rw [h1.length]; exact h3
    refine ⟨tcs ++ tf, vs ++ cell n, h1.append q1, by rw [List.all_append, h2, q2]; rfl, by rw [List.length_append, h3, hlen, Nat.add_mul, Nat.one_mul], fun i hi => ?_, fun i hi => ?_⟩
    · rcases Nat.lt_or_ge i n with hlt | hge
      · have hle : i * sz + sz ≤ n * sz := by rw [← Nat.succ_mul]; exact Nat.mul_le_mul_right _ hlt
        rw [List.drop_append_of_le_length (by omega), List.take_append_of_le_length (by simp; omega)]
        exact h4 i hlt
      · obtain rfl : i = n := by omega
        rw [← h3, List.drop_left, ← hlen, List.take_length]
        exact q3
    · rcases Nat.lt_or_ge i n with hlt | hge
      · have hle : i * sz + sz ≤ n * sz := by rw [← Nat.succ_mul]; exact Nat.mul_le_mul_right _ hlt
        rw [List.drop_append_of_le_length (by omega), List.take_append_of_le_length (by simp; omega)]
        exact h5 i hlt
      · obtain rfl : i = n := by omega
        rw [← hvl, List.drop_left, ← q4, List.take_length]

theorem cells_get {w : World} {base : Nat} {a : Addr} {n : Nat} {cs : List Value} (h : w.cells? base a n = some cs) : cs.length = n ∧ ∀ i v, cs[i]? = some v → w.cell? (a.add i) = some v := by
  unfold World.cells? at h
  split at h
  · have hl : cs.length = n := by
      have : ∀ {l : List Nat} {r : List Value}, l.mapM (fun i => w.cell? (a.add i)) = some r → r.length = l.length := by
        intro l
        induction l with
        | nil => intro r h; simp at h; subst h; rfl
        | cons x xs ih =>
          intro r h
          simp only [List.mapM_cons, Option.bind_eq_bind, Option.pure_def] at h
          cases hx : w.cell? (a.add x) with
          | none => simp [hx] at h
          | some y =>
            cases hr : xs.mapM (fun i => w.cell? (a.add i)) with
            | none => simp [hx, hr] at h
            | some ys =>
              simp [hx, hr] at h
              subst h
              simp [ih hr]
      simpa using this h
    refine ⟨hl, fun i v e => ?_⟩
    have hi := (List.getElem?_eq_some_iff.1 e).1
    obtain ⟨b, h1, h2⟩ := mapM_get h (i := i) (a := i) (List.getElem?_range (by omega))
    rw [h2] at e; cases e
    exact h1
  · cases h

theorem open_trod {H : Type} {enc : TypeId × Value → H} {sp : Nat → Bool} : ∀ (d : Nat) (t : TypeId) (fuel : Nat) (cs : List Value) (x : DataW H × List MemPlace), plainT (mkTab P) d t = true →
    DataW.trod enc P W 0 sp true fuel t cs = some x → ∃ tcs, VRL (g0 W) [] tcs cs ∧ tcs.all TV.one = true ∧ Ty (mkTab P) d t tcs
  | 0, _, _, _, _, h, _ => by simp [plainT] at h
  | _, _, 0, _, _, _, h => by simp [DataW.trod] at h
  | d + 1, t, fuel + 1, cs, x, hp, h => by
    simp only [plainT] at hp
    split at hp
    · cases hp
    · rename_i i hi
      obtain ⟨info, ds, k1, k2, k3, k4, k5, k6, k7⟩ := mkTab_sound hi
      simp only [Ty, hi]
      split at hp
      · rename_i hk
        rw [k3] at hk; obtain rfl := TK.of_bool hk
        simp only [DataW.trod, k2] at h
        split at h <;> first | (cases h; done) | skip
        all_goals (try (rename_i heq; cases heq; done))
        all_goals (try (rename_i heq _; cases heq; done))
        rename_i b _
        exact ⟨[.bool b], by simp [VRL, VR], rfl, b, rfl⟩
      · rename_i k hk
        rw [k3] at hk; obtain rfl := TK.of_int hk
        simp only [DataW.trod, k2] at h
        split at h <;> first | (cases h; done) | skip
        all_goals (try (rename_i heq; cases heq; done))
        all_goals (try (rename_i heq _; cases heq; done))
        rename_i k0 k' n heq
        cases heq
        split at h
        · rename_i hw
          obtain ⟨rfl, hwf⟩ := hw
          simp only [Lit.wf, Bool.and_eq_true, decide_eq_true_eq] at hwf
          exact ⟨[.int k' n], by simp [VRL, VR], rfl, n, rfl, hwf.1, hwf.2⟩
        · cases h
      · rename_i hk
        rw [k3] at hk; obtain rfl := TK.of_str hk
        simp only [DataW.trod, k2] at h
        split at h <;> first | (cases h; done) | skip
        all_goals (try (rename_i heq; cases heq; done))
        all_goals (try (rename_i heq _; cases heq; done))
        rename_i s _
        split at h
        · rename_i hs
          exact ⟨[.str s], by simp [VRL, VR], rfl, s, rfl, by simpa [maxLen] using hs⟩
        · cases h
      · rename_i e hk
        rw [k3] at hk; obtain rfl := TK.of_slice hk
        simp only [Bool.and_eq_true] at hp
        obtain ⟨hpe, hsz⟩ := hp
        cases hj : mkTab P e with
        | none => simp [hj] at hsz
        | some j =>
          simp only [hj, bne_iff_ne, ne_eq] at hsz
          dsimp only
          simp only [DataW.trod, k2] at h
          split at h <;> first | (cases h; done) | skip
          all_goals (try (rename_i heq; cases heq; done))
          all_goals (try (rename_i heq _; cases heq; done))
          · exact ⟨[.nils], by simp [VRL, VR], rfl, .inl rfl⟩
          · rename_i e' a len cap heq
            cases heq
            split at h
            · rename_i hc
              obtain ⟨_, hle, hcm⟩ := hc
              cases hel : (List.range len).mapM (fun i => (W.cells? 0 (a.add (i * P.cellsOf e)) (P.cellsOf e)).bind (DataW.trod enc P W 0 sp true fuel e)) with
              | none => simp [hel] at h
              | some els =>
                rw [cellsOf_tab hj] at hel
                have hcell : ∀ i, i < len → ∃ cs, W.cells? 0 (a.add (i * j.size)) j.size = some cs ∧ ∃ y, DataW.trod enc P W 0 sp true fuel e cs = some y := by
                  intro i hi'
                  obtain ⟨b, h1, h2⟩ := mapM_get hel (i := i) (a := i) (List.getElem?_range (by omega))
                  cases hq : W.cells? 0 (a.add (i * j.size)) j.size with
                  | none => simp [hq] at h1
                  | some cs => exact ⟨cs, rfl, b, by simpa [hq] using h1⟩
                let cell : Nat → List Value := fun i => (W.cells? 0 (a.add (i * j.size)) j.size).getD []
                obtain ⟨tcs, vs, q1, q2, q3, q4, q5⟩ := row_open (g := g0 W) (σ := []) (Ty (mkTab P) d e) j.size cell len fun i hi' => by
                  obtain ⟨cs, h1, y, h2⟩ := hcell i hi'
                  obtain ⟨tf, p1, p2, p3⟩ := open_trod d e fuel cs y hpe h2
                  exact ⟨tf, by simp only [cell, h1, Option.getD_some]; exact p1, p2, p3, by simp only [cell, h1, Option.getD_some]; exact (cells_get h1).1⟩
                have hvlen : vs.length = len * j.size := by rw [q1.length]; exact q3
                have hspot : 0 < len → a.spot = none := by
                  intro h0
                  obtain ⟨cs, h1, _⟩ := hcell 0 h0
                  obtain ⟨hl, hg⟩ := cells_get h1
                  have hne : cs[0]? = some cs[0] := List.getElem?_eq_getElem (by omega)
                  have := hg 0 _ hne
                  cases hs : a.spot with
                  | none => rfl
                  | some z =>
                    simp [Addr.add, World.cell?, hs] at this
                    split at this <;> simp at this
                have hcells : ∀ m v, vs[m]? = some v → W.cell? ⟨a.block, a.off + m, none⟩ = some v := by
                  intro m v hm
                  have hlt := (List.getElem?_eq_some_iff.1 hm).1
                  have hj0 : 0 < j.size := Nat.pos_of_ne_zero hsz
                  have hi' : m / j.size < len := by rw [Nat.div_lt_iff_lt_mul hj0]; omega
                  have hr := Nat.mod_lt m hj0
                  have hdm : m / j.size * j.size + m % j.size = m := by rw [Nat.mul_comm]; exact Nat.div_add_mod m j.size
                  have h5 := q5 _ hi'
                  obtain ⟨cs, h1, _⟩ := hcell _ hi'
                  have hc : cell (m / j.size) = cs := by simp [cell, h1]
                  rw [hc] at h5
                  have hget : cs[m % j.size]? = some v := by
                    rw [← h5, List.getElem?_take, if_pos hr, List.getElem?_drop, hdm]
                    exact hm
                  have hs := hspot (Nat.lt_of_le_of_lt (Nat.zero_le _) hi')
                  have := (cells_get h1).2 _ _ hget
                  rw [Addr.add_of hs, Addr.add_lit] at this
                  simpa [Nat.add_assoc, hdm] using this
                refine ⟨[.sl none len tcs], ?_, rfl, .inr ⟨len, tcs, rfl, by simpa [maxLen] using Nat.le_trans hle hcm, q3, q2, q4⟩⟩
                simp only [VRL, VR]
                refine ⟨_, [], rfl, ⟨a, cap, vs, rfl, hle, ?_, ?_, q1, trivial⟩, rfl⟩
                · intro m v hm
                  exact g0_kept (hcells m v hm) (q1.one q2 v (List.mem_of_getElem? hm))
                · rcases Nat.eq_zero_or_pos len with h0 | h0
                  · right
                    subst h0
                    exact List.eq_nil_of_length_eq_zero (by simpa using hvlen)
                  · exact .inl (hspot h0)
            · cases h
      · rename_i fs nm hk
        rw [k3] at hk; obtain ⟨fields, rfl, rfl, _⟩ := TK.of_struct hk
        simp only [Bool.and_eq_true, beq_iff_eq, List.all_eq_true] at hp
        obtain ⟨ht, hall⟩ := hp
        simp only [DataW.trod, k2] at h
        rw [cellsOf_tab hi] at h
        split at h
        · rename_i hlen
          cases hm : fields.toList.mapM (fun f => DataW.trod enc P W 0 sp true fuel f.type ((cs.drop f.offset).take (P.cellsOf f.type))) with
          | none => simp [hm] at h
          | some xs =>
            obtain ⟨tcs, q1, q2, q3, q4⟩ := tile_open (g := g0 W) (σ := []) d cs (Ty (mkTab P) d) _ 0 i.size ht (by omega) fun f hf j hj => by
              obtain ⟨fl, hfl, rfl⟩ := List.mem_map.1 hf
              obtain ⟨n, hn⟩ := List.mem_iff_getElem?.1 hfl
              obtain ⟨y, h1, _⟩ := mapM_get hm hn
              rw [cellsOf_tab hj] at h1
              exact open_trod d fl.type fuel _ y (hall _ hf) h1
            simp only [List.drop_zero, Nat.sub_zero] at q1
            rw [List.take_of_length_le (by omega)] at q1
            refine ⟨tcs, q1, q2, by rw [← q1.length]; exact hlen, fun f hf => ?_⟩
            obtain ⟨_, j, hj, hty⟩ := q4 f hf
            rw [hj]
            simpa using hty
        · cases h
      · rename_i n e hk
        rw [k3] at hk; obtain rfl := TK.of_arr hk
        simp only [Bool.and_eq_true] at hp
        obtain ⟨hpe, hsz⟩ := hp
        cases hj : mkTab P e with
        | none => simp [hj] at hsz
        | some j =>
          simp only [hj, beq_iff_eq] at hsz
          dsimp only
          simp only [DataW.trod, k2] at h
          rw [cellsOf_tab hi, cellsOf_tab hj] at h
          split at h
          · rename_i hlen
            cases hm : (List.range n).mapM (fun i => DataW.trod enc P W 0 sp true fuel e ((cs.drop (i * j.size)).take j.size)) with
            | none => simp [hm] at h
            | some xs =>
              obtain ⟨tcs, vs, q1, q2, q3, q4, q5⟩ := row_open (g := g0 W) (σ := []) (Ty (mkTab P) d e) j.size (fun i => (cs.drop (i * j.size)).take j.size) n fun i hi' => by
                obtain ⟨y, h1, _⟩ := mapM_get hm (i := i) (a := i) (List.getElem?_range (by omega))
                obtain ⟨tf, p1, p2, p3⟩ := open_trod d e fuel _ y hpe h1
                refine ⟨tf, p1, p2, p3, ?_⟩
                have hle : i * j.size + j.size ≤ n * j.size := by rw [← Nat.succ_mul]; exact Nat.mul_le_mul_right _ hi'
                simp
                omega
              have hvs : vs = cs := by
                have hvlen : vs.length = n * j.size := by rw [q1.length]; exact q3
                apply List.ext_getElem?
                intro m
                rcases Nat.lt_or_ge m (n * j.size) with hlt | hge
                · rcases Nat.eq_zero_or_pos j.size with h0 | h0
                  · rw [h0] at hlt; omega
                  · have hi' : m / j.size < n := by rw [Nat.div_lt_iff_lt_mul h0]; exact hlt
                    have hr := Nat.mod_lt m h0
                    have hdm : m / j.size * j.size + m % j.size = m := by rw [Nat.mul_comm]; exact Nat.div_add_mod m j.size
                    have h5 := congrArg (fun l => l[m % j.size]?) (q5 _ hi')
                    simp only [List.getElem?_take, if_pos hr, List.getElem?_drop, hdm] at h5
                    exact h5
                · rw [List.getElem?_eq_none (by omega), List.getElem?_eq_none (by omega)]
              subst hvs
              exact ⟨tcs, q1, q2, q3, q4⟩
          · cases h
      · cases hp
termination_by d => d

end
end Go.TM
