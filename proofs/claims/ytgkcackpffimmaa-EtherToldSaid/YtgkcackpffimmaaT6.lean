/- The T-machine, part 6: slices of slices and texts, numbers, comparisons. -/
import Derived.Test.YtgkcackpffimmaaT5
import Derived.Laws.StructEq
import Derived.Lib.Strings
set_option linter.unusedVariables false
namespace Go.TM
open Go.RowKit (Below)

/- bounds -/
def BR : Option Nat → Option Value → Prop
  | none, v => v = none
  | some n, v => ∃ k, v = some (.int k (n : Int))

theorem sliceBound_run {P : Program} (k : IntKind) (n y : Nat) (code : BoundsCode) (h : n ≤ y) (w : World) : (Instr.sliceBound (.int k (n : Int)) y code).run P w = .ok n w := by
  simp only [Instr.sliceBound, asIntOf, Sem.run_bind, Sem.run_pure, Result.andThen_ok]
  rw [if_pos ⟨by omega, by omega⟩]
  simp

theorem sliceBounds_run {P : Program} (isSlice : Bool) (len cap : Nat) {lo hi mx : Option Nat} {lov hiv mxv : Option Value} (hl : BR lo lov) (hh : BR hi hiv) (hm : BR mx mxv)
    (h1 : lo.getD 0 ≤ hi.getD len) (h2 : hi.isSome = true → hi.getD len ≤ mx.getD cap) (h3 : mx.getD cap ≤ cap) (h4 : mx.isSome = true → hi.isSome = true) (w : World) :
    (Instr.sliceBounds isSlice len cap lov hiv mxv).run P w = .ok (lo.getD 0, hi.getD len, mx.getD cap) w := by
  cases mx with
  | none =>
    simp only [BR] at hm; subst hm
    cases hi with
    | none =>
      simp only [BR] at hh; subst hh
      cases lo with
      | none =>
        simp only [BR] at hl; subst hl
        simp [Instr.sliceBounds]
      | some l =>
        simp only [BR] at hl
        obtain ⟨k, rfl⟩ := hl
        simp at h1
        simp [Instr.sliceBounds, sliceBound_run k l len _ h1]
    | some h =>
      simp only [BR] at hh
      obtain ⟨kh, rfl⟩ := hh
      simp at h2
      cases lo with
      | none =>
        simp only [BR] at hl; subst hl
        simp [Instr.sliceBounds, sliceBound_run kh h cap _ h2]
      | some l =>
        simp only [BR] at hl
        obtain ⟨k, rfl⟩ := hl
        simp at h1
        simp [Instr.sliceBounds, sliceBound_run kh h cap _ h2, sliceBound_run k l h _ h1]
  | some m =>
    simp only [BR] at hm
    obtain ⟨km, rfl⟩ := hm
    simp at h3
    cases hi with
    | none => simp at h4
    | some h =>
      simp only [BR] at hh
      obtain ⟨kh, rfl⟩ := hh
      simp at h2
      cases lo with
      | none =>
        simp only [BR] at hl; subst hl
        simp [Instr.sliceBounds, sliceBound_run km m cap _ h3, sliceBound_run kh h m _ h2]
      | some l =>
        simp only [BR] at hl
        obtain ⟨k, rfl⟩ := hl
        simp at h1
        simp [Instr.sliceBounds, sliceBound_run km m cap _ h3, sliceBound_run kh h m _ h2, sliceBound_run k l h _ h1]

def tslice (T : Tab) (t : TypeId) (x : TV) (lo hi mx : Option Nat) : Option TV :=
  match T t with
  | none => none
  | some i => match i.k, x with
    | .str, .str s => if mx = none ∧ lo.getD 0 ≤ hi.getD s.size ∧ hi.getD s.size ≤ s.size then some (.str (s.extract (lo.getD 0) (hi.getD s.size))) else none
    | .slice e, .sl own len cs => match T e with
      | some j => if lo.getD 0 ≤ hi.getD len ∧ hi.getD len ≤ mx.getD len ∧ mx.getD len ≤ len ∧ (mx.isSome = true → hi.isSome = true) ∧ hi.getD len * j.size ≤ cs.length then
          some (.sl (if hi.getD len = len ∧ mx = none ∧ cs.length = len * j.size then own else none) (hi.getD len - lo.getD 0) ((cs.drop (lo.getD 0 * j.size)).take ((hi.getD len - lo.getD 0) * j.size)))
        else none
      | none => none
    | .slice e, .nils => match T e with
      | some _ => if lo.getD 0 = 0 ∧ hi.getD 0 = 0 ∧ mx.getD 0 = 0 ∧ (mx.isSome = true → hi.isSome = true) then some .nils else none
      | none => none
    | .slice e, .msl l o len => match T e with
      | some j => if lo.getD 0 ≤ hi.getD len ∧ hi.getD len ≤ mx.getD len ∧ mx.getD len ≤ len ∧ (mx.isSome = true → hi.isSome = true) ∧ hi.getD len - lo.getD 0 ≠ 0 then some (.msl l (o + lo.getD 0 * j.size) (hi.getD len - lo.getD 0)) else none
      | none => none
    | .arr n e, .ptr l o => match T e with
      | some j => if lo.getD 0 ≤ hi.getD n ∧ hi.getD n ≤ mx.getD n ∧ mx.getD n ≤ n ∧ (mx.isSome = true → hi.isSome = true) ∧ hi.getD n - lo.getD 0 ≠ 0 then some (.msl l (o + lo.getD 0 * j.size) (hi.getD n - lo.getD 0)) else none
      | none => none
    | _, _ => none

theorem tslice_run {P : Program} {g : G} {σ : TS} {t : TypeId} {x r : TV} {xv : Value} {lo hi mx : Option Nat} {lov hiv mxv : Option Value} (hx : VR g σ x xv) (hl : BR lo lov) (hh : BR hi hiv) (hm : BR mx mxv)
    (h : tslice (mkTab P) t x lo hi mx = some r) (w : World) : ∃ v, (Instr.sliceAt t xv lov hiv mxv).run P w = .ok v w ∧ VR g σ r v := by
  unfold tslice at h
  split at h
  · cases h
  · rename_i i hi'
    obtain ⟨info, d, k1, k2, k3, k4, k5, k6, k7⟩ := mkTab_sound hi'
    split at h
    · rename_i s hk
      rw [k3] at hk
      obtain rfl := TK.of_str hk
      split at h
      · rename_i hc
        cases h
        obtain ⟨rfl, c1, c2⟩ := hc
        simp only [VR] at hx; subst hx
        simp only [BR] at hm; subst hm
        have hb := sliceBounds_run (P := P) false s.size s.size (mx := none) (mxv := none) hl hh rfl c1 (fun _ => by simpa using c2) (by simp) (by simp) w
        refine ⟨.string (s.extract (lo.getD 0) (hi.getD s.size)), ?_, by simp only [VR]⟩
        simp only [Instr.sliceAt, Sem.run_bind, run_underlying k2, Result.andThen_ok, Instr.slice]
        simp [hb]
      · cases h
    · rename_i e own len cs hk
      rw [k3] at hk
      obtain rfl := TK.of_slice hk
      split at h
      · rename_i j hj
        split at h
        · rename_i hc
          cases h
          obtain ⟨c1, c2, c3, c4, c5⟩ := hc
          simp only [VR] at hx
          obtain ⟨a, cap, vs, rfl, hle, hk', hs, hvl, ho⟩ := hx
          have hmc : mx.getD cap ≤ cap := by cases mx <;> simp_all; omega
          have hhm : hi.isSome = true → hi.getD len ≤ mx.getD cap := by intro _; cases mx <;> simp_all; omega
          have hb := sliceBounds_run (P := P) true len cap hl hh hm c1 hhm hmc c4 w
          have hvlen := hvl.length
          have hmul : lo.getD 0 * j.size ≤ hi.getD len * j.size := Nat.mul_le_mul_right _ c1
          have hle2 : hi.getD len ≤ mx.getD cap := by cases mx <;> simp_all <;> omega
          refine ⟨.slice (some (if mx.getD cap = lo.getD 0 then a else a.add (lo.getD 0 * j.size))) (hi.getD len - lo.getD 0) (mx.getD cap - lo.getD 0), ?_, ?_⟩
          · simp only [Instr.sliceAt, Sem.run_bind, run_underlying k2, Result.andThen_ok, Instr.slice, hb, sizeOf_run hj, Sem.run_pure]
            split <;> simp_all
          · simp only [VR]
            have hvs : (vs.drop (lo.getD 0 * j.size)).take ((hi.getD len - lo.getD 0) * j.size) = (vs.drop (lo.getD 0 * j.size)).take ((hi.getD len - lo.getD 0) * j.size) := rfl
            refine ⟨_, _, (vs.drop (lo.getD 0 * j.size)).take ((hi.getD len - lo.getD 0) * j.size), rfl, by omega, ?_, ?_, (hvl.drop _).take _, ?_⟩
            · split
              · rename_i heq
                have h0 : hi.getD len - lo.getD 0 = 0 := by omega
                rw [h0]
                intro i v e; simp at e
              · rcases hs with hs | hs
                · rw [Addr.add_of hs]
                  exact hk'.drop.take
                · subst hs
                  intro i v e; simp at e
            · split
              · rcases hs with hs | hs
                · exact .inl hs
                · subst hs; exact .inr (by simp)
              · rcases hs with hs | hs
                · rw [Addr.add_of hs]; exact .inl rfl
                · subst hs; exact .inr (by simp)
            · split
              · rename_i hcond
                obtain ⟨e1, rfl, e3⟩ := hcond
                match own, ho with
                | none, _ => trivial
                | some (tk, en), ⟨k, sz, q1, q2, q3⟩ =>
                  refine ⟨k, sz, q1, q2, fun he => ?_⟩
                  obtain ⟨b, x, p1, p2⟩ := q3 he
                  refine ⟨b, x, ?_, fun hne => ?_⟩
                  · have e4 : (none : Option Nat).getD cap - lo.getD 0 - (hi.getD len - lo.getD 0) = cap - len := by
                      rw [Option.getD_none]
                      omega
                    rw [e4]
                    exact p1
                  · simp only [Option.getD_none] at *
                    have hne' : cap - len ≠ 0 := by omega
                    obtain ⟨r1, r2, r3⟩ := p2 hne'
                    rw [if_neg (by omega), Addr.add_of r3]
                    refine ⟨r1, ?_, rfl⟩
                    rw [r2, hvlen, e3]
                    have hlen : ((vs.drop (lo.getD 0 * j.size)).take ((hi.getD len - lo.getD 0) * j.size)).length = (len - lo.getD 0) * j.size := by
                      rw [e1, List.length_take, List.length_drop, hvlen, e3, Nat.sub_mul]
                      omega
                    rw [hlen, Nat.sub_mul]
                    have : lo.getD 0 * j.size ≤ len * j.size := Nat.mul_le_mul_right _ (by omega)
                    simp only
                    omega
              · trivial
        · cases h
      · cases h
    · rename_i e hk
      rw [k3] at hk
      obtain rfl := TK.of_slice hk
      split at h
      · rename_i j hj
        split at h
        · rename_i hc
          cases h
          obtain ⟨c1, c2, c3, c4⟩ := hc
          simp only [VR] at hx; subst hx
          have hb := sliceBounds_run (P := P) true 0 0 hl hh hm (by omega) (fun _ => by omega) (by omega) c4 w
          refine ⟨.slice none 0 0, ?_, by simp only [VR]⟩
          simp only [Instr.sliceAt, Sem.run_bind, run_underlying k2, Result.andThen_ok, Instr.slice, hb, sizeOf_run hj, Sem.run_pure, c1, c2, c3]
          simp
        · cases h
      · cases h
    · rename_i e l o len hk
      rw [k3] at hk
      obtain rfl := TK.of_slice hk
      split at h
      · rename_i j hj
        split at h
        · rename_i hc
          cases h
          obtain ⟨c1, c2, c3, c4, c5⟩ := hc
          simp only [VR] at hx
          obtain ⟨b, cap, hb', rfl, hle⟩ := hx
          have hmc : mx.getD cap ≤ cap := by cases mx <;> simp_all; omega
          have hhm : hi.isSome = true → hi.getD len ≤ mx.getD cap := by intro _; cases mx <;> simp_all; omega
          have hle2 : hi.getD len ≤ mx.getD cap := by cases mx <;> simp_all <;> omega
          have hb := sliceBounds_run (P := P) true len cap hl hh hm c1 hhm hmc c4 w
          refine ⟨.slice (some ⟨b, o + lo.getD 0 * j.size, none⟩) (hi.getD len - lo.getD 0) (mx.getD cap - lo.getD 0), ?_, ?_⟩
          · simp only [Instr.sliceAt, Sem.run_bind, run_underlying k2, Result.andThen_ok, Instr.slice, hb, sizeOf_run hj, Sem.run_pure]
            rw [if_neg (by omega)]
            simp [Addr.add_lit]
          · simp only [VR]
            exact ⟨b, _, hb', rfl, by omega⟩
        · cases h
      · cases h
    · rename_i n e l o hk
      rw [k3] at hk
      obtain rfl := TK.of_arr hk
      split at h
      · rename_i j hj
        split at h
        · rename_i hc
          cases h
          obtain ⟨c1, c2, c3, c4, c5⟩ := hc
          simp only [VR] at hx
          obtain ⟨b, hb', rfl⟩ := hx
          have hb := sliceBounds_run (P := P) false n n hl hh hm c1 (fun _ => c2) c3 c4 w
          refine ⟨.slice (some ⟨b, o + lo.getD 0 * j.size, none⟩) (hi.getD n - lo.getD 0) (mx.getD n - lo.getD 0), ?_, ?_⟩
          · simp only [Instr.sliceAt, Instr.sureAddr, Sem.run_bind, run_underlying k2, Result.andThen_ok, hb, sizeOf_run hj, Sem.run_pure]
            rw [if_neg (by omega)]
            simp [Addr.add_lit]
          · simp only [VR]
            exact ⟨b, _, hb', rfl, by omega⟩
        · cases h
      · cases h
    · cases h

/- pure reckonings of the model's own -/
def ofSem (s : Sem Value) : Option TV :=
  match s with
  | .pure v => const1 v
  | _ => none

theorem ofSem_run {P : Program} {g : G} {σ : TS} {s : Sem Value} {tv : TV} (h : ofSem s = some tv) (w : World) : ∃ v, s.run P w = .ok v w ∧ VR g σ tv v := by
  unfold ofSem at h
  split at h
  · rename_i v
    exact ⟨v, rfl, const1_sound h⟩
  · cases h

/- equality -/
def teq1 (k : TK) (cst : Bool) (x y : TV) : Option Bool :=
  match k, x, y with
  | .bool, .bool a, .bool b => some (a == b)
  | .int _, .int k a, .int k' b => if k = k' then some (a == b) else none
  | .str, .str a, .str b => some (a == b)
  | .ptr _, .nilp, .nilp => some true
  | .ptr _, .nilp, .ptr .. | .ptr _, .nilp, .cp _ | .ptr _, .ptr .., .nilp | .ptr _, .cp _, .nilp => some false
  | .iface n, .nili, .nili => if cst || n then some true else none
  | .iface _, .nili, .iface .. | .iface _, .iface .., .nili => some false
  | .slice _, .nils, .nils => some true
  | .slice _, .nils, .sl .. | .slice _, .sl .., .nils => some false
  | .map .., .nilm, .nilm => some true
  | .map .., .nilm, .map _ | .map .., .map _, .nilm => some false
  | .func, .nilf, .nilf => some true
  | .func, .nilf, .func .. | .func, .func .., .nilf => some false
  | _, _, _ => none

def tall {α : Type} (f : α → Option Bool) : List α → Option Bool
  | [] => some true
  | a :: as => match f a with
    | some true => tall f as
    | some false => some false
    | none => none

def teqIn (T : Tab) (cst : Bool) : Nat → TypeId → TV → TV → Option Bool
  | 0, _, _, _ => none
  | d + 1, t, x, y => match T t with
    | none => none
    | some i => match i.k, x, y with
      | .struct fs true, .agg xs, .agg ys => if i.eqok = true then tall (fun f => match tpart T f.1 xs f.2, tpart T f.1 ys f.2 with
          | some a, some b => teqIn T true d f.1 a b
          | _, _ => none) fs else none
      | .arr n e, .agg xs, .agg ys => match T e with
        | some j => if i.eqok = true then tall (fun m => match tpart T e xs (m * j.size), tpart T e ys (m * j.size) with
          | some a, some b => teqIn T true d e a b
          | _, _ => none) (List.range n) else none
        | none => none
      | k, x, y => teq1 k cst x y

theorem teq1_run {P : Program} {g : G} {σ : TS} {t : TypeId} {d : TypeDesc} {cst r : Bool} {x y : TV} {xv yv : Value} (hx : VR g σ x xv) (hy : VR g σ y yv) (hd : P.underlying t = some d)
    (h : teq1 (TK.of d) cst x y = some r) (D : Nat) (w : World) : (Op.equalIn (D + 1) t xv yv).run P w = .ok r w := by
  unfold teq1 at h
  split at h
  case h_1 hk => cases h; simp only [VR] at hx hy; subst hx hy; rw [TK.of_bool hk] at hd; simp [Op.equalIn, run_underlying hd]
  case h_2 hk =>
    split at h
    · cases h; simp only [VR] at hx hy; subst hx hy; rename_i hkk; subst hkk; rw [TK.of_int hk] at hd; simp [Op.equalIn, run_underlying hd]
    · cases h
  case h_3 hk => cases h; simp only [VR] at hx hy; subst hx hy; rw [TK.of_str hk] at hd; simp [Op.equalIn, run_underlying hd]
  case h_4 hk => cases h; simp only [VR] at hx hy; subst hx hy; rw [TK.of_ptr hk] at hd; simp [Op.equalIn, run_underlying hd]
  case h_5 hk => cases h; simp only [VR] at hx hy; subst hx; obtain ⟨_, _, rfl⟩ := hy; rw [TK.of_ptr hk] at hd; simp [Op.equalIn, run_underlying hd]
  case h_6 hk => cases h; simp only [VR] at hx hy; subst hx; obtain ⟨_, _, _, rfl, _⟩ := hy; rw [TK.of_ptr hk] at hd; simp [Op.equalIn, run_underlying hd]
  case h_7 hk => cases h; simp only [VR] at hx hy; subst hy; obtain ⟨_, _, rfl⟩ := hx; rw [TK.of_ptr hk] at hd; simp [Op.equalIn, run_underlying hd]
  case h_8 hk => cases h; simp only [VR] at hx hy; subst hy; obtain ⟨_, _, _, rfl, _⟩ := hx; rw [TK.of_ptr hk] at hd; simp [Op.equalIn, run_underlying hd]
  case h_9 hk =>
    split at h
    · cases h; simp only [VR] at hx hy; subst hx hy
      obtain ⟨ms, rfl, _⟩ := TK.of_iface hk; simp [Op.equalIn, run_underlying hd]
    · cases h
  case h_10 hk => cases h; simp only [VR] at hx hy; subst hx; obtain ⟨_, rfl, _⟩ := hy; obtain ⟨ms, rfl, _⟩ := TK.of_iface hk; simp [Op.equalIn, run_underlying hd]
  case h_11 hk => cases h; simp only [VR] at hx hy; subst hy; obtain ⟨_, rfl, _⟩ := hx; obtain ⟨ms, rfl, _⟩ := TK.of_iface hk; simp [Op.equalIn, run_underlying hd]
  case h_12 hk => cases h; simp only [VR] at hx hy; subst hx hy; rw [TK.of_slice hk] at hd; simp [Op.equalIn, run_underlying hd]
  case h_13 hk => cases h; simp only [VR] at hx hy; subst hx; obtain ⟨_, _, _, rfl, _⟩ := hy; rw [TK.of_slice hk] at hd; simp [Op.equalIn, run_underlying hd]
  case h_14 hk => cases h; simp only [VR] at hx hy; subst hy; obtain ⟨_, _, _, rfl, _⟩ := hx; rw [TK.of_slice hk] at hd; simp [Op.equalIn, run_underlying hd]
  case h_15 hk => cases h; simp only [VR] at hx hy; subst hx hy; rw [TK.of_map hk] at hd; simp [Op.equalIn, run_underlying hd]
  case h_16 hk => cases h; simp only [VR] at hx hy; subst hx; obtain ⟨_, _, rfl⟩ := hy; rw [TK.of_map hk] at hd; simp [Op.equalIn, run_underlying hd]
  case h_17 hk => cases h; simp only [VR] at hx hy; subst hy; obtain ⟨_, _, rfl⟩ := hx; rw [TK.of_map hk] at hd; simp [Op.equalIn, run_underlying hd]
  case h_18 hk => cases h; simp only [VR] at hx hy; subst hx hy; obtain ⟨_, _, _, rfl⟩ := TK.of_func hk; simp [Op.equalIn, run_underlying hd]
  case h_19 hk => cases h; simp only [VR] at hx hy; subst hx; obtain ⟨_, _, rfl, _⟩ := hy; obtain ⟨_, _, _, rfl⟩ := TK.of_func hk; simp [Op.equalIn, run_underlying hd]
  case h_20 hk => cases h; simp only [VR] at hx hy; subst hy; obtain ⟨_, _, rfl, _⟩ := hx; obtain ⟨_, _, _, rfl⟩ := TK.of_func hk; simp [Op.equalIn, run_underlying hd]
  case h_21 => cases h

theorem tall_fields {P : Program} {g : G} {σ : TS} {xs ys : List TV} {us vs : Array Value} (hx : VRL g σ xs us.toList) (hy : VRL g σ ys vs.toList) (D : Nat) (f : TypeId → TV → TV → Option Bool)
    (ih : ∀ t a b av bv r, VR g σ a av → VR g σ b bv → f t a b = some r → ∀ w, (Op.equalIn D t av bv).run P w = .ok r w) :
    ∀ (fs : List Field) (r : Bool), (fs.all fun f => f.name != "_") = true →
      tall (fun q : TypeId × Nat => match tpart (mkTab P) q.1 xs q.2, tpart (mkTab P) q.1 ys q.2 with | some a, some b => f q.1 a b | _, _ => none) (fs.map fun f => (f.type, f.offset)) = some r →
      ∀ w, (Op.eqFields D us vs fs).run P w = .ok r w
  | [], r, _, h, w => by simp only [List.map_nil, tall] at h; cases h; simp [Op.eqFields]
  | fl :: fs, r, hn, h, w => by
    simp only [List.all_cons, Bool.and_eq_true] at hn
    simp only [List.map_cons, tall] at h
    cases ha : tpart (mkTab P) fl.type xs fl.offset with
    | none => simp [ha] at h
    | some a =>
      cases hb : tpart (mkTab P) fl.type ys fl.offset with
      | none => simp [ha, hb] at h
      | some b =>
        simp only [ha, hb] at h
        obtain ⟨av, r1, v1⟩ := part_run hx ha w
        obtain ⟨bv, r2, v2⟩ := part_run hy hb w
        have hnm : fl.name ≠ "_" := by simpa using hn.1
        simp only [Op.eqFields]
        rw [if_pos hnm]
        cases hq : f fl.type a b with
        | none => simp [hq] at h
        | some q =>
          have h3 := ih _ _ _ _ _ _ v1 v2 hq w
          simp only [Sem.run_bind, r1, r2, h3, Result.andThen_ok]
          cases q with
          | false => simp only [hq] at h; cases h; simp
          | true =>
            simp only [hq] at h
            simpa using tall_fields hx hy D f ih fs r hn.2 h w

theorem tall_range {P : Program} {g : G} {σ : TS} {xs ys : List TV} {us vs : Array Value} (hx : VRL g σ xs us.toList) (hy : VRL g σ ys vs.toList) (D : Nat) (e : TypeId) (sz : Nat) (f : TV → TV → Option Bool)
    (ih : ∀ a b av bv r, VR g σ a av → VR g σ b bv → f a b = some r → ∀ w, (Op.equalIn D e av bv).run P w = .ok r w) :
    ∀ (l : List Nat) (r : Bool),
      tall (fun m => match tpart (mkTab P) e xs (m * sz), tpart (mkTab P) e ys (m * sz) with | some a, some b => f a b | _, _ => none) l = some r →
      ∀ w, ((forIn l ((none, ()) : Option Bool × Unit) fun i _ => do
        let a ← part e us (i * sz)
        let b ← part e vs (i * sz)
        let q ← Op.equalIn D e a b
        if (!q) = true then pure (ForInStep.done (some false, ())) else pure (ForInStep.yield (none, ()))) : Sem (Option Bool × Unit)).run P w =
        .ok (if r then (none, ()) else (some false, ())) w
  | [], r, h, w => by simp only [tall] at h; cases h; simp
  | m :: l, r, h, w => by
    simp only [tall] at h
    cases ha : tpart (mkTab P) e xs (m * sz) with
    | none => simp [ha] at h
    | some a =>
      cases hb : tpart (mkTab P) e ys (m * sz) with
      | none => simp [ha, hb] at h
      | some b =>
        simp only [ha, hb] at h
        obtain ⟨av, r1, v1⟩ := part_run hx ha w
        obtain ⟨bv, r2, v2⟩ := part_run hy hb w
        cases hq : f a b with
        | none => simp [hq] at h
        | some q =>
          have h3 := ih _ _ _ _ _ v1 v2 hq w
          simp only [List.forIn_cons, Sem.run_bind, r1, r2, h3, Result.andThen_ok]
          cases q with
          | false => simp only [hq] at h; cases h; simp
          | true =>
            simp only [hq] at h
            simpa using tall_range hx hy D e sz f ih l r h w

theorem teqIn_run {P : Program} {g : G} {σ : TS} : ∀ (d D : Nat) (cst : Bool) (t : TypeId) (x y : TV) (xv yv : Value) (r : Bool), d ≤ D → VR g σ x xv → VR g σ y yv → teqIn (mkTab P) cst d t x y = some r →
    ∀ w, (Op.equalIn D t xv yv).run P w = .ok r w
  | 0, _, _, _, _, _, _, _, _, _, _, _, h, _ => by simp [teqIn] at h
  | d + 1, 0, _, _, _, _, _, _, _, hle, _, _, _, _ => by omega
  | d + 1, D + 1, cst, t, x, y, xv, yv, r, hle, hx, hy, h, w => by
    simp only [teqIn] at h
    split at h
    · cases h
    · rename_i i hi
      obtain ⟨info, ds, k1, k2, k3, k4, k5, k6, k7⟩ := mkTab_sound hi
      split at h
      · rename_i fs xs ys hk
        rw [k3] at hk
        obtain ⟨fields, rfl, rfl, hnm⟩ := TK.of_struct hk
        split at h
        · rename_i heq
          simp only [VR] at hx hy
          obtain ⟨us, rfl, hu⟩ := hx
          obtain ⟨vs, rfl, hv⟩ := hy
          rw [k7] at heq
          simp only [eqOk, Bool.and_eq_true, Bool.not_eq_true'] at heq
          have hfo : P.fieldsOf t = fields := by simp [Program.fieldsOf, k2]
          rw [run_equalIn_struct w D t us vs (by rw [hfo]; exact k2) heq.1, hfo]
          exact tall_fields hu hv D (fun t a b => teqIn (mkTab P) true d t a b) (fun t a b av bv r ha hb hr w => teqIn_run d D true t a b av bv r (by omega) ha hb hr w) fields.toList r hnm.symm h w
        · cases h
      · rename_i n e xs ys hk
        rw [k3] at hk
        obtain rfl := TK.of_arr hk
        split at h
        · rename_i j hj
          split at h
          · simp only [VR] at hx hy
            obtain ⟨us, rfl, hu⟩ := hx
            obtain ⟨vs, rfl, hv⟩ := hy
            have := tall_range hu hv D e j.size (fun a b => teqIn (mkTab P) true d e a b) (fun a b av bv r ha hb hr w => teqIn_run d D true e a b av bv r (by omega) ha hb hr w) (List.range n) r h w
            simp only [Op.equalIn, Sem.run_bind, run_underlying k2, Result.andThen_ok, sizeOf_run hj]
            rw [Std.Legacy.Range.forIn_eq_forIn_range']
            simp only [Std.Legacy.Range.size, Nat.sub_zero, Nat.add_sub_cancel, Nat.div_one, ← List.range_eq_range']
            rw [this]
            cases r <;> simp
          · cases h
        · cases h
      · rw [k3] at h
        exact teq1_run hx hy k2 h D w

end Go.TM
