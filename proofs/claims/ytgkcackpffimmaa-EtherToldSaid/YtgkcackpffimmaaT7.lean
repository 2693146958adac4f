/- The T-machine, part 7: binary and unary operators, conversions, lengths, append. -/
import Derived.Test.YtgkcackpffimmaaT6
set_option linter.unusedVariables false
namespace Go.TM
open Go.RowKit (Below)

def isC : Operand → Bool
  | .const _ => true
  | _ => false

def Value.both (p : Value → Bool) (x y : Value) : Bool := p x && p y
def Value.isInt : Value → Bool | .int .. => true | _ => false
def Value.isStr : Value → Bool | .string .. => true | _ => false
def Value.isFlt : Value → Bool | .float .. | .complex .. => true | _ => false

theorem binOp_eql (t : TypeId) (x y : Value) (h1 : (Value.isInt x && Value.isInt y) = false) (h2 : (Value.isStr x && Value.isStr y) = false) (h3 : Value.isFlt x = false) :
    binOp .eql t x y = (do pure (.bool (← Op.equal t x y))) := by
  unfold binOp
  split <;> simp_all [Value.isInt, Value.isStr, Value.isFlt]

theorem binOp_neq (t : TypeId) (x y : Value) (h1 : (Value.isInt x && Value.isInt y) = false) (h2 : (Value.isStr x && Value.isStr y) = false) (h3 : Value.isFlt x = false) :
    binOp .neq t x y = (do pure (.bool (!(← Op.equal t x y)))) := by
  unfold binOp
  split <;> simp_all [Value.isInt, Value.isStr, Value.isFlt]

def TV.isInt : TV → Bool | .int .. => true | _ => false
def TV.isStr : TV → Bool | .str .. => true | _ => false

theorem VR.isInt {g : G} {σ : TS} {x : TV} {v : Value} (h : VR g σ x v) : Value.isInt v = x.isInt ∧ Value.isStr v = x.isStr ∧ Value.isFlt v = false := by
  cases x <;> simp only [VR] at h <;> first
    | (subst h; exact ⟨rfl, rfl, rfl⟩)
    | (obtain ⟨_, _, rfl⟩ := h; exact ⟨rfl, rfl, rfl⟩)
    | (obtain ⟨_, rfl, _⟩ := h; exact ⟨rfl, rfl, rfl⟩)
    | (obtain ⟨_, _, _, rfl, _⟩ := h; exact ⟨rfl, rfl, rfl⟩)
    | (obtain ⟨_, _, rfl, _⟩ := h; exact ⟨rfl, rfl, rfl⟩)

def tbin (T : Tab) (cst : Bool) (op : BinOp) (t : TypeId) (x y : TV) : Option TV :=
  match x, y with
  | .int k a, .int k' b => ofSem (binOp op t (.int k a) (.int k' b))
  | .str a, .str b => ofSem (Op.stringOp op a b)
  | x, y => if x.isInt && y.isInt || x.isStr && y.isStr then none else match op with
    | .eql => match teqIn T cst 64 t x y with
      | some r => some (.bool r)
      | none => none
    | .neq => match teqIn T cst 64 t x y with
      | some r => some (.bool (!r))
      | none => none
    | _ => none

def Value.isNilI : Value → Bool | .nilIface => true | _ => false
def Value.isAggV : Value → Bool | .agg _ => true | _ => false
def TV.isNilI : TV → Bool | .nili => true | _ => false
def TV.isAggV : TV → Bool | .agg _ => true | _ => false

theorem VR.shape {g : G} {σ : TS} {x : TV} {v : Value} (h : VR g σ x v) : Value.isNilI v = x.isNilI ∧ Value.isAggV v = x.isAggV := by
  cases x <;> simp only [VR] at h <;> first
    | (subst h; exact ⟨rfl, rfl⟩)
    | (obtain ⟨_, _, rfl⟩ := h; exact ⟨rfl, rfl⟩)
    | (obtain ⟨_, rfl, _⟩ := h; exact ⟨rfl, rfl⟩)
    | (obtain ⟨_, _, _, rfl, _⟩ := h; exact ⟨rfl, rfl⟩)
    | (obtain ⟨_, _, rfl, _⟩ := h; exact ⟨rfl, rfl⟩)

theorem eqGuard_other {P : Program} (op : BinOp) (t : TypeId) (xo yo : Operand) (a b : Value) (h1 : (Value.isNilI a && Value.isNilI b) = false) (h2 : (Value.isAggV a && Value.isAggV b) = false) (w : World) :
    (eqGuard op t xo yo a b).run P w = .ok () w := by
  cases op <;> first
    | rfl
    | (simp only [eqGuard]
       split
       · rfl
       · split <;> simp_all [Value.isNilI, Value.isAggV])

theorem eqGuardIn_nil {P : Program} (D : Nat) (t : TypeId) (ms : Array (String × TypeId)) (hu : P.underlying t = some (.interface ms)) (w : World) : (Op.eqGuardIn (D + 1) t .nilIface .nilIface).run P w = .ok (!ms.isEmpty) w := by
  simp [Op.eqGuardIn, run_underlying hu]

theorem eqGuard_nil {P : Program} (op : BinOp) (t : TypeId) (xo yo : Operand) (ms : Array (String × TypeId)) (hu : P.underlying t = some (.interface ms)) (h : (isC xo || isC yo) = true ∨ ms.isEmpty = true) (w : World) :
    (eqGuard op t xo yo .nilIface .nilIface).run P w = .ok () w := by
  have he : (Op.eqGuardIn Op.maxDepth t .nilIface .nilIface).run P w = .ok (!ms.isEmpty) w := eqGuardIn_nil 9999 t ms hu w
  have key : ∀ c : Bool, (c = true ∨ ms.isEmpty = true) → ((if c = true then pure () else do
      if ← Op.eqGuardIn Op.maxDepth t .nilIface .nilIface then unsupported (.noEntry "binop/eql: two nil values of an interface type with methods, neither of them the literal nil")) : Sem Unit).run P w = .ok () w := by
    intro c hc
    cases c with
    | true => simp
    | false =>
      rcases hc with hc | hc
      · cases hc
      · simp [he, hc]
  cases op <;> first
    | rfl
    | (simp only [eqGuard]
       refine key _ ?_
       refine h.imp (fun hc => ?_) id
       cases xo <;> cases yo <;> simp_all [isC])

theorem eqGuard_run {P : Program} {g : G} {σ : TS} {t : TypeId} {x y : TV} {xv yv : Value} {xo yo : Operand} {r : Bool} {d : Nat} (op : BinOp) (hx : VR g σ x xv) (hy : VR g σ y yv)
    (h : teqIn (mkTab P) (isC xo || isC yo) d t x y = some r) (w : World) : (eqGuard op t xo yo xv yv).run P w = .ok () w := by
  cases d with
  | zero => simp [teqIn] at h
  | succ d =>
    obtain ⟨s1, s2⟩ := hx.shape
    obtain ⟨q1, q2⟩ := hy.shape
    by_cases hn : x.isNilI = true ∧ y.isNilI = true
    · cases x <;> simp [TV.isNilI] at hn
      cases y <;> simp at hn
      simp only [VR] at hx hy; subst hx hy
      simp only [teqIn] at h
      split at h
      · cases h
      · rename_i i hi
        obtain ⟨info, ds, k1, k2, k3, k4, k5, k6, k7⟩ := mkTab_sound hi
        have h' : teq1 i.k (isC xo || isC yo) .nili .nili = some r := by
          revert h
          cases i.k <;> intro h <;> simpa using h
        unfold teq1 at h'
        split at h' <;> first | (rename_i heq; cases heq; done) | (rename_i heq _; cases heq; done) | (rename_i _ heq; cases heq; done) | skip
        · rename_i n hk _ _
          rw [k3] at hk
          obtain ⟨ms, rfl, rfl⟩ := TK.of_iface hk
          split at h'
          · rename_i hor
            exact eqGuard_nil op t xo yo ms k2 (by simpa only [Bool.or_eq_true] using hor) w
          · cases h'
        · cases h'
    · have hnil : (Value.isNilI xv && Value.isNilI yv) = false := by rw [s1, q1]; simpa using hn
      by_cases ha : x.isAggV = true ∧ y.isAggV = true
      · cases x <;> simp [TV.isAggV] at ha
        cases y <;> simp at ha
        simp only [teqIn] at h
        split at h
        · cases h
        · rename_i i hi
          obtain ⟨info, ds, k1, k2, k3, k4, k5, k6, k7⟩ := mkTab_sound hi
          simp only [VR] at hx hy
          obtain ⟨us, rfl, hu⟩ := hx
          obtain ⟨vs, rfl, hv⟩ := hy
          split at h
          · rename_i hk _ _
            rw [k3] at hk
            obtain ⟨fields, rfl, rfl, hnm⟩ := TK.of_struct hk
            split at h
            · rename_i heq
              rw [k7] at heq
              simp only [eqOk, Bool.and_eq_true, Bool.not_eq_true'] at heq
              exact run_eqGuard_agg w op t xo yo us vs heq.2
            · cases h
          · rename_i hk _ _
            rw [k3] at hk
            obtain rfl := TK.of_arr hk
            split at h
            · split at h
              · rename_i heq
                rw [k7] at heq
                simp only [eqOk, Bool.not_eq_true'] at heq
                exact run_eqGuard_agg w op t xo yo us vs heq
              · cases h
            · cases h
          · unfold teq1 at h
            split at h <;> first | (rename_i heq; cases heq; done) | (rename_i heq _; cases heq; done) | (rename_i _ heq; cases heq; done) | (cases h; done)
      · exact eqGuard_other op t xo yo xv yv hnil (by rw [s2, q2]; simpa using ha) w

theorem tbin_run {P : Program} {g : G} {σ : TS} {t : TypeId} {x y r : TV} {xv yv : Value} {xo yo : Operand} {op : BinOp} (hx : VR g σ x xv) (hy : VR g σ y yv)
    (h : tbin (mkTab P) (isC xo || isC yo) op t x y = some r) (w : World) : ∃ v, (do eqGuard op t xo yo xv yv; binOp op t xv yv : Sem Value).run P w = .ok v w ∧ VR g σ r v := by
  unfold tbin at h
  split at h
  · rename_i k a k' b
    simp only [VR] at hx hy; subst hx hy
    obtain ⟨v, h1, h2⟩ := ofSem_run (P := P) (g := g) (σ := σ) h w
    refine ⟨v, ?_, h2⟩
    have : (eqGuard op t xo yo (.int k a) (.int k' b)).run P w = .ok () w := by unfold eqGuard; split <;> rfl
    rw [Sem.run_bind, this]
    exact h1
  · rename_i a b
    simp only [VR] at hx hy; subst hx hy
    obtain ⟨v, h1, h2⟩ := ofSem_run (P := P) (g := g) (σ := σ) h w
    refine ⟨v, ?_, h2⟩
    have : (eqGuard op t xo yo (.string a) (.string b)).run P w = .ok () w := by unfold eqGuard; split <;> rfl
    rw [Sem.run_bind, this]
    have : binOp op t (.string a) (.string b) = Op.stringOp op a b := by cases op <;> rfl
    rw [Result.andThen_ok, this]
    exact h1
  · split at h
    · cases h
    · rename_i hb
      simp only [Bool.or_eq_true, not_or, Bool.not_eq_true] at hb
      obtain ⟨q1, q2, q3⟩ := hx.isInt
      obtain ⟨p1, p2, p3⟩ := hy.isInt
      split at h
      · split at h
        · rename_i rr hq
          cases h
          have hg := eqGuard_run (xo := xo) (yo := yo) .eql hx hy hq w
          have he := teqIn_run 64 10000 _ t x y xv yv rr (by omega) hx hy hq w
          refine ⟨.bool rr, ?_, by simp only [VR]⟩
          rw [Sem.run_bind, hg, Result.andThen_ok, binOp_eql t xv yv (by rw [q1, p1]; exact hb.1) (by rw [q2, p2]; exact hb.2) q3]
          simp [Op.equal, Op.maxDepth, he]
        · cases h
      · split at h
        · rename_i rr hq
          cases h
          have hg := eqGuard_run (xo := xo) (yo := yo) .neq hx hy hq w
          have he := teqIn_run 64 10000 _ t x y xv yv rr (by omega) hx hy hq w
          refine ⟨.bool (!rr), ?_, by simp only [VR]⟩
          rw [Sem.run_bind, hg, Result.andThen_ok, binOp_neq t xv yv (by rw [q1, p1]; exact hb.1) (by rw [q2, p2]; exact hb.2) q3]
          simp [Op.equal, Op.maxDepth, he]
        · cases h
      · cases h

def tun (op : UnOp) (x : TV) : Option TV :=
  match x with
  | .int k n => ofSem (Op.unary op (.int k n))
  | .bool b => ofSem (Op.unary op (.bool b))
  | _ => none

theorem tun_run {P : Program} {g : G} {σ : TS} {op : UnOp} {x r : TV} {xv : Value} (hx : VR g σ x xv) (h : tun op x = some r) (w : World) : ∃ v, (Op.unary op xv).run P w = .ok v w ∧ VR g σ r v := by
  unfold tun at h
  split at h
  · simp only [VR] at hx; subst hx; exact ofSem_run h w
  · simp only [VR] at hx; subst hx; exact ofSem_run h w
  · cases h

/- bytes -/
def byteTVs (s : ByteArray) : List TV := s.data.toList.map fun b => .int .u8 b.toNat

def tbytes : List TV → Option (List UInt8)
  | [] => some []
  | .int .u8 n :: r => match tbytes r with
    | some bs => some (UInt8.ofNat n.toNat :: bs)
    | none => none
  | _ => none

/-- The cells of a slice that is read. -/
def tslcells (σ : TS) : TV → Option (List TV)
  | .sl _ _ cs => some cs
  | .nils => some []
  | .msl l o len => match σ[l]? with
    | some (.cells cs) => some (cs.drop o)
    | _ => none
  | _ => none

def tlen : TV → Option Nat
  | .sl _ len _ => some len
  | .nils => some 0
  | .msl _ _ len => some len
  | .str s => some s.size
  | _ => none

theorem tslcells_sound {g : G} {σ : TS} {w : World} (hw : WR g σ w) {x : TV} {xv : Value} (hx : VR g σ x xv) {cs : List TV} {n : Nat} (h : tslcells σ x = some cs) (hn : tlen x = some n) :
    ∃ a cap vs, xv = .slice a n cap ∧ n ≤ cap ∧ VRL g σ cs vs ∧ (∀ ad, a = some ad → ∀ i v, vs[i]? = some v → w.cell? (ad.add i) = some v) ∧ (a = none → n = 0 ∧ cap = 0 ∧ vs = []) ∧ (∀ ad, a = some ad → vs ≠ [] → ad.spot = none) := by
  unfold tslcells at h
  split at h
  · rename_i own len cs'
    cases h
    simp only [tlen, Option.some.injEq] at hn; subst hn
    simp only [VR] at hx
    obtain ⟨a, cap, vs, rfl, hle, hk, hs, hl, ho⟩ := hx
    refine ⟨some a, cap, vs, rfl, hle, hl, ?_, by simp, ?_⟩
    · rintro ad h i v e
      cases h
      rcases hs with hs | hs
      · rw [Addr.add_of hs]; exact (hw.keep _ _ _ (hk i v e)).1
      · subst hs; simp at e
    · rintro ad h hne
      cases h
      rcases hs with hs | hs
      · exact hs
      · exact absurd hs hne
  · cases h
    simp only [tlen, Option.some.injEq] at hn; subst hn
    simp only [VR] at hx; subst hx
    exact ⟨none, 0, [], rfl, Nat.le_refl _, by simp [VRL], by simp, by simp, by simp⟩
  · rename_i l o len
    split at h
    · rename_i cs' hl
      cases h
      simp only [tlen, Option.some.injEq] at hn; subst hn
      simp only [VR] at hx
      obtain ⟨b, cap, hb, rfl, hle⟩ := hx
      have ho := hw.obj l b hb
      rw [hl] at ho
      obtain ⟨c, e, fz, vs, rest, h1, h2, h3, h4, h5⟩ := ho
      refine ⟨some ⟨b, o, none⟩, cap, vs.drop o, rfl, hle, h5.drop o, ?_, by simp, by rintro ad h _; cases h; rfl⟩
      rintro ad h i v e
      cases h
      rw [Addr.add_lit, cell_of_heap h1, ← Array.getElem?_toList, h2]
      rw [List.getElem?_drop] at e
      rw [List.getElem?_append_left (List.getElem?_eq_some_iff.1 e).1]
      exact e
    · cases h
  · cases h

def tconv (T : Tab) (want mu : Bool) (σ : TS) (src dst : TypeId) (x : TV) : Option (TV × TS) :=
  match T src, T dst with
  | some i, some j => match i.k, j.k, x with
    | _, .int k, .int _ n => some (.int k (k.wrap n), σ)
    | _, .str, .str s => some (.str s, σ)
    | _, .slice e, .str s => match T e with
      | some m => match m.k with
        | .int .u8 => if mu then some (.msl σ.length 0 s.size, σ ++ [.cells (byteTVs s)]) else some (tright want σ s.size 1 (byteTVs s))
        | _ => none
      | none => none
    | .slice e, .str, x => match T e, tslcells σ x, tlen x with
      | some m, some cs, some n => match m.k, tbytes (cs.take n) with
        | .int .u8, some bs => if n ≤ cs.length then some (.str ⟨bs.toArray⟩, σ) else none
        | _, _ => none
      | _, _, _ => none
    | _, _, _ => none
  | _, _ => none

theorem byteTVs_VRL {g : G} {σ : TS} (s : ByteArray) : VRL g σ (byteTVs s) (byteCells s) := by
  refine VRL.ofGet (by simp [byteTVs, byteCells]) fun i x v hx hv => ?_
  simp only [byteTVs, byteCells, List.getElem?_map] at hx hv
  cases h : s.data.toList[i]? with
  | none => simp [h] at hx
  | some b =>
    simp only [h, Option.map_some, Option.some.injEq] at hx hv
    subst hx hv
    simp only [VR]

theorem byteTVs_one (s : ByteArray) : (byteTVs s).all TV.one = true := by
  unfold byteTVs
  rw [List.all_map, List.all_eq_true]
  intro x _; rfl

theorem bytesLoop_run {P : Program} {g : G} {σ : TS} : ∀ (cs : List TV) (vs : List Value) (bs : List UInt8) (acc : ByteArray) (w : World), VRL g σ cs vs → tbytes cs = some bs →
    ((forIn vs acc fun c s => (match c with
      | .int .u8 n => do pure (ForInStep.yield (s.push (UInt8.ofNat n.toNat)))
      | _ => stuck "bytesToString: byte expected")) : Sem ByteArray).run P w = .ok ⟨(acc.data.toList ++ bs).toArray⟩ w
  | [], vs, bs, acc, w, h, hb => by
    simp only [VRL] at h; subst h
    simp only [tbytes, Option.some.injEq] at hb; subst hb
    simp
  | c :: cs, vs, bs, acc, w, h, hb => by
    simp only [VRL] at h
    obtain ⟨v, rest, rfl, hv, hr⟩ := h
    unfold tbytes at hb
    split at hb
    · rename_i heq; cases heq
    · rename_i n r heq
      cases heq
      split at hb
      · rename_i bs' hbs
        cases hb
        simp only [VR] at hv
        subst hv
        simp only [List.forIn_cons, Sem.run_bind, Sem.run_pure, Result.andThen_ok]
        rw [bytesLoop_run cs rest bs' _ w hr hbs]
        simp [ByteArray.push]
      · cases hb
    · cases hb

end Go.TM
