/- What the boxes of rooms compute. -/
import Derived.Test.YtbhhmnfjjnnkiaaGreatP1
set_option linter.unusedVariables false
set_option linter.unusedSimpArgs false
set_option maxRecDepth 10000
set_option maxHeartbeats 4000000
namespace Go.Proofs.YtbhhmnfjjnnkiaaGreat
open Go.TM

theorem meth_row_put : TMeth Tryz.prog 197 "pitot/ports.put" 249 := fun a w => by kernel_rfl
theorem meth_row_count : TMeth Tryz.prog 197 "pitot/ports.count" 248 := fun a w => by kernel_rfl
theorem meth_row_clear : TMeth Tryz.prog 197 "pitot/ports.clear" 247 := fun a w => by kernel_rfl
theorem meth_sample_put : TMeth Tryz.prog 194 "pitot/ports.put" 246 := fun a w => by kernel_rfl
theorem meth_sample_count : TMeth Tryz.prog 194 "pitot/ports.count" 245 := fun a w => by kernel_rfl
theorem meth_sample_clear : TMeth Tryz.prog 194 "pitot/ports.clear" 244 := fun a w => by kernel_rfl

theorem lenQ {σ : TS} {lab : Nat → Nat} {c : Nat} {v : TV} {ls : List (List UInt8)} (h : QS σ lab c v ls) : tlenOp (mkTab Tryz.prog) 178 v = some (.int .i64 ls.length) := by
  rcases h with ⟨rfl, rfl⟩ | ⟨t, e, h1, rfl, h3⟩ <;> simp [tlenOp, tab178]

theorem appS {w : Bool} {σ : TS} {tk e : Nat} {ls : List (List UInt8)} {s : List UInt8} (hr : σ[tk]? = some (.right e 1)) (hb : ls.length ≤ 100000) :
    tappend (mkTab Tryz.prog) w σ 178 178 (.sl (some (tk, e)) ls.length (ls.flatMap strC)) (.sl none 1 [.str (B s)]) = some (.sl (some (tk, e + 1)) (ls.length + 1) ((ls ++ [s]).flatMap strC), σ.set tk (.right (e + 1) 1)) := by
  have := app_ownE (w := w) (n := ls.length) (cs := ls.flatMap strC) tab178 rfl tab9 rfl rfl (src_sl (σ := σ) (own := none) (cs := [.str (B s)]) (n := 1) (sz := 1) tab178 rfl rfl) rfl rfl hr (by rw [strC_len]; exact (Nat.mul_one _).symm) (by show (ls.length + 1) * 16 ≤ _; omega) (by omega)
  rw [this, List.flatMap_append]
  rfl
theorem appS0 {σ : TS} {s : List UInt8} :
    tappend (mkTab Tryz.prog) true σ 178 178 .nils (.sl none 1 [.str (B s)]) = some (.sl (some (σ.length, 1)) 1 [.str (B s)], σ ++ [.right 1 1]) := by
  exact app_nil (σ := σ) tab178 rfl tab9 rfl rfl (src_sl (σ := σ) (own := none) (cs := [.str (B s)]) (n := 1) (sz := 1) tab178 rfl rfl) rfl rfl (by decide) (by decide) (by decide)

section
variable {σ : TS} {l : Nat} {v : TV} {most : Int} {lost : Bool} {ls : List (List UInt8)} (hl : σ[l]? = some (.cells [v, .int .i64 most, .bool lost]))
include hl
theorem rowput_full (hv : tlenOp (mkTab Tryz.prog) 178 v = some (.int .i64 ls.length)) (hf : (ls.length : Int) ≥ most) (now : Int) (s : List UInt8) :
    TDoes Tryz.prog 249 [.ptr l 0, .int .i64 now, .str (B s)] σ (.int .i64 22) (σ.set l (.cells [v, .int .i64 most, .bool true])) := by
  refine calls_of [] [.tmp 6] Tryz.func249 (by kernel_rfl) rfl (by kernel_rfl) fun X hR hN => ?_
  show Tw _ _ _ _ ([some _, some _, some _] ++ List.replicate 27 none) _
  simp only [List.replicate, List.cons_append, List.nil_append]
  have FK := @hl; have FD := @hv; have FL := zdum
  refine walk ?_
  (repeat' first | exact Lv.nil | apply Lv.cons) <;> (intros; clear FL FD FK)
  all_goals first | exact ⟨rfl, rfl⟩ | exact ⟨rfl, trivial⟩ | exact ⟨trivial, rfl⟩ | trivial
theorem rowput_own {t e : Nat} (hv : v = .sl (some (t, e)) ls.length (ls.flatMap strC)) (ht : σ[t]? = some (.right e 1)) (hf : (ls.length : Int) < most) (hb : ls.length ≤ 100000) (now : Int) (s : List UInt8) :
    TDoes Tryz.prog 249 [.ptr l 0, .int .i64 now, .str (B s)] σ (.int .i64 0) ((σ.set t (.right (e + 1) 1)).set l (.cells [.sl (some (t, e + 1)) (ls.length + 1) ((ls ++ [s]).flatMap strC), .int .i64 most, .bool lost])) := by
  subst hv
  have hne : t ≠ l := fun e => by subst e; rw [hl] at ht; cases ht
  have h1 := lt_of_get hl
  have happ := fun w => appS (w := w) (s := s) ht hb
  refine calls_of [27] [.tmp 6] Tryz.func249 (by kernel_rfl) rfl (by kernel_rfl) fun X hR hN => ?_
  show Tw _ _ _ _ ([some _, some _, some _] ++ List.replicate 27 none) _
  simp only [List.replicate, List.cons_append, List.nil_append]
  have FK := And.intro @hl (@get_set_ne); have FD := @happ; have FL := zdum
  refine walk ?_
  (repeat' first | exact Lv.nil | apply Lv.cons) <;> (intros; clear FL FD FK)
  all_goals first | exact ⟨rfl, rfl⟩ | exact ⟨rfl, trivial⟩ | exact ⟨trivial, rfl⟩ | trivial
theorem rowput_nil (hv : v = .nils) (hf : 0 < most) (now : Int) (s : List UInt8) :
    TDoes Tryz.prog 249 [.ptr l 0, .int .i64 now, .str (B s)] σ (.int .i64 0) (σ.set l (.cells [.sl (some (σ.length, 1)) 1 [.str (B s)], .int .i64 most, .bool lost]) ++ [.right 1 1]) := by
  subst hv
  have h1 := lt_of_get hl
  refine calls_of [27] [.tmp 6] Tryz.func249 (by kernel_rfl) rfl (by kernel_rfl) fun X hR hN => ?_
  show Tw _ _ _ _ ([some _, some _, some _] ++ List.replicate 27 none) _
  simp only [List.replicate, List.cons_append, List.nil_append]
  have FK := And.intro @hl (And.intro @get_old (@set_old)); have FD := @appS0; have FL := zdum
  refine walk ?_
  (repeat' first | exact Lv.nil | apply Lv.cons) <;> (intros; clear FL FD FK)
  all_goals first | exact ⟨rfl, rfl⟩ | exact ⟨rfl, trivial⟩ | exact ⟨trivial, rfl⟩ | trivial
theorem rowclear_walk : TDoes Tryz.prog 247 [.ptr l 0] σ (.tup []) (σ.set l (.cells [.nils, .int .i64 most, .bool false])) := by
  refine calls_of [] [] Tryz.func247 (by kernel_rfl) rfl (by kernel_rfl) fun X hR hN => ?_
  show Tw _ _ _ _ ([some _] ++ List.replicate 8 none) _
  simp only [List.replicate, List.cons_append, List.nil_append]
  have FK := @hl; have FD := zdum; have FL := zdum
  refine walk ?_
  (repeat' first | exact Lv.nil | apply Lv.cons) <;> (intros; clear FL FD FK)
  all_goals first | exact ⟨rfl, rfl⟩ | exact ⟨rfl, trivial⟩ | exact ⟨trivial, rfl⟩ | trivial
end

section
variable {σ : TS} {l : Nat} {d : List UInt8} {at' : Int} {has : Bool} (hl : σ[l]? = some (.cells [.str (B d), .int .i64 at', .bool has]))
include hl
theorem sampleput_walk (now : Int) (s : List UInt8) : TDoes Tryz.prog 246 [.ptr l 0, .int .i64 now, .str (B s)] σ (.int .i64 (if has = true ∧ now < at' then 24 else 0)) (if has = true ∧ now < at' then σ else σ.set l (.cells [.str (B s), .int .i64 now, .bool true])) := by
  cases has with
  | false =>
    rw [if_neg (by simp), if_neg (by simp)]
    refine calls_of [] [.tmp 6] Tryz.func246 (by kernel_rfl) rfl (by kernel_rfl) fun X hR hN => ?_
    show Tw _ _ _ _ ([some _, some _, some _] ++ List.replicate 21 none) _
    simp only [List.replicate, List.cons_append, List.nil_append]
    have FK := @hl; have FD := zdum; have FL := zdum
    refine walk ?_
    (repeat' first | exact Lv.nil | apply Lv.cons) <;> (intros; clear FL FD FK)
    all_goals first | exact ⟨rfl, rfl⟩ | exact ⟨rfl, trivial⟩ | exact ⟨trivial, rfl⟩ | trivial
  | true =>
    by_cases h : now < at'
    · rw [if_pos ⟨rfl, h⟩, if_pos ⟨rfl, h⟩]
      refine calls_of [] [.tmp 6] Tryz.func246 (by kernel_rfl) rfl (by kernel_rfl) fun X hR hN => ?_
      show Tw _ _ _ _ ([some _, some _, some _] ++ List.replicate 21 none) _
      simp only [List.replicate, List.cons_append, List.nil_append]
      have FK := @hl; have FD := zdum; have FL := zdum
      refine walk ?_
      (repeat' first | exact Lv.nil | apply Lv.cons) <;> (intros; clear FL FD FK)
      all_goals first | exact ⟨rfl, rfl⟩ | exact ⟨rfl, trivial⟩ | exact ⟨trivial, rfl⟩ | trivial
    · rw [if_neg (fun e => h e.2), if_neg (fun e => h e.2)]
      refine calls_of [] [.tmp 6] Tryz.func246 (by kernel_rfl) rfl (by kernel_rfl) fun X hR hN => ?_
      show Tw _ _ _ _ ([some _, some _, some _] ++ List.replicate 21 none) _
      simp only [List.replicate, List.cons_append, List.nil_append]
      have FK := @hl; have FD := zdum; have FL := zdum
      refine walk ?_
      (repeat' first | exact Lv.nil | apply Lv.cons) <;> (intros; clear FL FD FK)
      all_goals first | exact ⟨rfl, rfl⟩ | exact ⟨rfl, trivial⟩ | exact ⟨trivial, rfl⟩ | trivial
theorem sampleclear_walk : TDoes Tryz.prog 244 [.ptr l 0] σ (.tup []) (σ.set l (.cells [.str (B []), .int .i64 0, .bool false])) := by
  refine calls_of [] [] Tryz.func244 (by kernel_rfl) rfl (by kernel_rfl) fun X hR hN => ?_
  show Tw _ _ _ _ ([some _] ++ List.replicate 4 none) _
  simp only [List.replicate, List.cons_append, List.nil_append]
  have FK := @hl; have FD := zdum; have FL := zdum
  refine walk ?_
  (repeat' first | exact Lv.nil | apply Lv.cons) <;> (intros; clear FL FD FK)
  all_goals first | exact ⟨rfl, rfl⟩ | exact ⟨rfl, trivial⟩ | exact ⟨trivial, rfl⟩ | trivial
end

/- boxes by what they hold -/
section
variable {σ : TS} {lab : Nat → Nat} {c loc : Nat} {b : Bx}
abbrev kindT (b : Bx) : TypeId := if b.p.kind = 1 then 194 else 197

/-- A message comes for a box. -/
theorem boxput_walk (h : BoxP σ lab c loc b) (hb : b.ok) (now : Int) (s : List UInt8) (hs : (s.length : Int) ≤ b.p.size) :
    ∃ k, TMeth Tryz.prog (kindT b) "pitot/ports.put" k ∧ TCalls Tryz.prog k [.ptr loc 0, .int .i64 now, .str (B s)] σ fun v σ' => v = .int .i64 (putB now s b).2 ∧ BoxP σ' (labX lab σ.length c) c loc (putB now s b).1 ∧ Grow σ lab σ' (labX lab σ.length c) (· = c) := by
  obtain ⟨h1, h2⟩ := h
  have hx : ∀ o ρ, Grow σ lab (σ.set loc o ++ ρ) (labX lab σ.length c) (· = c) := fun o ρ => Grow.set ρ h1 c
  have hx0 : ∀ o, Grow σ lab (σ.set loc o) (labX lab σ.length c) (· = c) := fun o => by have := hx o []; rwa [List.append_nil] at this
  have hr0 : Grow σ lab σ (labX lab σ.length c) (· = c) := by have := Grow.tail (σ := σ) (lab := lab) [] (· = c) c; rwa [List.append_nil] at this
  by_cases hk : b.p.kind = 1
  · rw [if_pos hk] at h2
    refine ⟨_, by rw [kindT, if_pos hk]; exact meth_sample_put, ?_⟩
    refine (sampleput_walk h2 now s).mono fun v σ' q => ?_
    obtain ⟨rfl, rfl⟩ := q
    have hlt := lt_of_get h2
    have hs' : ¬ (s.length : Int) > b.p.size := by omega
    rw [putB, if_neg hs', if_pos hk]
    by_cases hc : b.l ≠ [] ∧ now < b.at_
    · have hc' : (!b.l.isEmpty) = true ∧ now < b.at_ := ⟨by simpa [List.isEmpty_iff] using hc.1, hc.2⟩
      rw [if_pos hc, if_pos hc', if_pos hc']
      exact ⟨rfl, ⟨(labX_old hlt).trans h1, by rw [if_pos hk]; exact h2⟩, hr0⟩
    · have hc' : ¬ ((!b.l.isEmpty) = true ∧ now < b.at_) := fun e => hc ⟨by simpa [List.isEmpty_iff] using e.1, e.2⟩
      rw [if_neg hc, if_neg hc', if_neg hc']
      exact ⟨rfl, ⟨(labX_old hlt).trans h1, by rw [if_pos hk]; exact List.getElem?_set_self hlt⟩, hx0 _⟩
  · rw [if_neg hk] at h2
    obtain ⟨v, h3, h4⟩ := h2
    have hlt := lt_of_get h3
    refine ⟨_, by rw [kindT, if_neg hk]; exact meth_row_put, ?_⟩
    rw [putB, if_neg (by omega), if_neg hk]
    by_cases hf : (b.l.length : Int) ≥ b.p.depth
    · rw [if_pos hf]
      refine (rowput_full h3 (lenQ h4) hf now s).mono fun v' σ' q => ?_
      obtain ⟨rfl, rfl⟩ := q
      refine ⟨rfl, ⟨(labX_old hlt).trans h1, ?_⟩, hx0 _⟩
      rw [if_neg hk]
      refine ⟨v, List.getElem?_set_self hlt, ?_⟩
      rcases h4 with h4 | ⟨t, e, k1, k2, k3⟩
      · exact .inl h4
      · exact .inr ⟨t, e, (labX_old (lt_of_get k3)).trans k1, k2, by rw [List.getElem?_set_ne]; exact k3; rintro rfl; rw [h3] at k3; cases k3⟩
    · rw [if_neg hf]
      rcases h4 with ⟨k1, k2⟩ | ⟨t, e, k1, k2, k3⟩
      · refine (rowput_nil h3 k1 (by rw [k2] at hf; simp at hf; exact hf) now s).mono fun v' σ' q => ?_
        obtain ⟨rfl, rfl⟩ := q
        refine ⟨rfl, ⟨(labX_old hlt).trans h1, ?_⟩, hx _ _⟩
        rw [if_neg hk]
        refine ⟨_, by rw [List.getElem?_append_left (by simpa using hlt)]; exact List.getElem?_set_self hlt, ?_⟩
        refine .inr ⟨σ.length, 1, labX_new (Nat.le_refl _), by rw [k2]; rfl, ?_⟩
        rw [List.getElem?_append_right (by simp)]; simp
      · refine (rowput_own h3 k2 k3 (by omega) (by have := hb.room; omega) now s).mono fun v' σ' q => ?_
        obtain ⟨rfl, rfl⟩ := q
        have hne : t ≠ loc := fun e => by subst e; rw [h3] at k3; cases k3
        have hgt : Grow σ lab ((σ.set t (.right (e + 1) 1)).set loc (.cells [.sl (some (t, e + 1)) (b.l.length + 1) ((b.l ++ [s]).flatMap strC), .int .i64 b.p.depth, .bool b.lost])) (labX lab σ.length c) (· = c) :=
          ⟨by simp, fun i hi => labX_old hi, fun i hi hc => by
            rw [List.getElem?_set_ne (by rintro rfl; exact hc h1), List.getElem?_set_ne (by rintro rfl; exact hc k1)]⟩
        refine ⟨rfl, ⟨(labX_old hlt).trans h1, ?_⟩, hgt⟩
        rw [if_neg hk]
        refine ⟨_, List.getElem?_set_self (by simpa using hlt), ?_⟩
        exact .inr ⟨t, e + 1, (labX_old (lt_of_get k3)).trans k1, by simp, by rw [List.getElem?_set_ne (Ne.symm hne)]; exact List.getElem?_set_self (lt_of_get k3)⟩

theorem boxclear_walk (h : BoxP σ lab c loc b) : ∃ k, TMeth Tryz.prog (kindT b) "pitot/ports.clear" k ∧ ∃ o, TDoes Tryz.prog k [.ptr loc 0] σ (.tup []) (σ.set loc o) ∧ ∀ σ' lab', σ'[loc]? = some o → lab' loc = c → BoxP σ' lab' c loc (clearB b) := by
  obtain ⟨h1, h2⟩ := h
  by_cases hk : b.p.kind = 1
  · rw [if_pos hk] at h2
    exact ⟨_, by rw [kindT, if_pos hk]; exact meth_sample_clear, _, sampleclear_walk h2, fun σ' lab' hs hl => ⟨hl, by rw [if_pos (by exact hk)]; exact hs⟩⟩
  · rw [if_neg hk] at h2
    obtain ⟨v, h3, h4⟩ := h2
    exact ⟨_, by rw [kindT, if_neg hk]; exact meth_row_clear, _, rowclear_walk h3, fun σ' lab' hs hl => ⟨hl, by rw [if_neg (by exact hk)]; exact ⟨_, hs, .inl ⟨rfl, rfl⟩⟩⟩⟩
end
end Go.Proofs.YtbhhmnfjjnnkiaaGreat
