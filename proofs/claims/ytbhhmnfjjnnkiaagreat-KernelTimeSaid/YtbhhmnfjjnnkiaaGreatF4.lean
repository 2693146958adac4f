/- config's port walked. -/
import Derived.Test.YtbhhmnfjjnnkiaaGreatF3
set_option linter.unusedVariables false
set_option linter.unusedSimpArgs false
set_option maxRecDepth 10000
set_option maxHeartbeats 4000000
namespace Go.Proofs.YtbhhmnfjjnnkiaaGreat
open Go.TM

/-- The heap behind a look at a port. -/
def portH (c : Cfg) (lp i : Nat) (σ : TS) (e : Int) : TS := if e = 0 ∨ e = 21 then σ.set lp (.map (mEnt plTV kI (seenP c (i + 1)).1) (seenP c (i + 1)).2) else σ

theorem portV_ends {p : Port} {v : Link} (hk : p.kind = 1 ∨ p.kind = 2) : portV p v = if endsS p v ≠ 0 then endsS p v else if p.kind = 1 then sampS p v else if p.depth < 1 ∨ p.depth > 64 ∨ p.fresh ≠ 0 then 1 else 0 := by
  unfold portV endsS sampS
  cases ho : p.out <;> cases hc : v.to.l.contains p.host <;> rcases hk with hk | hk <;> simp [hk] <;> (repeat' split) <;> first | rfl | omega

theorem endsS_val (p : Port) (v : Link) : endsS p v = 0 ∨ endsS p v = 1 ∨ endsS p v = 20 := by unfold endsS; (repeat' split) <;> simp
theorem sampS_val (p : Port) (v : Link) : sampS p v = 0 ∨ sampS p v = 1 ∨ sampS p v = 11 := by unfold sampS; (repeat' split) <;> simp

theorem port_walk (c : Cfg) (l lm lp : Nat) (i : Nat) (σ : TS) (hc : c.ok) (hn : σ[l]? = some (.cells (netC c lm))) (hm : σ[lm]? = some (.map (mEnt kI linkTV (seenL c c.vls.l.length).1) (seenL c c.vls.l.length).2))
    (hs : σ[lp]? = some (.map (mEnt plTV kI (seenP c i).1) (seenP c i).2)) (hi : i < c.ports.l.length) (hi2 : i ≤ 9223372036854775000) (hl : ∀ k, k < c.vls.l.length → linkS c k = 0) (hp : ∀ k, k < i → portS c k = 0)
    (hto : ∀ v ∈ c.vls.l, v.to.l.length ≤ 9223372036854775000) :
    TDoes Tryz.prog 36 [.ptr l 0, .int .i64 i, .map lp] σ (.int .i64 (portS c i)) (portH c lp i σ (portS c i)) := by
  have hln := lt_of_get hn
  have hlm := lt_of_get hm
  have hlp := lt_of_get hs
  have hpl := hc.lparts
  have hpred : ((i : Int) - 1).toNat = i - 1 := by omega
  have hso := seenP_ok c i
  have hlook := lookP hs
  have hlook2 := lookP2 hs
  have hent := entP hs
  have hent2 := entP2 hs hso
  cases hv : findL c.vls.l (nth c.ports.l i).vl with
  | none =>
    have hfind : ∀ ρ, tlookup (mkTab Tryz.prog) (σ ++ ρ) 83 (.map lm) (.int .i64 (nth c.ports.l i).vl) true = some (.tup [linkTV ⟨0, 0, 0, 0, false, 0, 0, Row.none⟩, .bool false]) := fun ρ => by
      rw [lookL hm, seenL_find c _ hl, hv]
    refine does_of [] [.tmp 6] Tryz.func36 (by kernel_rfl) rfl (by kernel_rfl) fun X hR hN => ?_
    show Tw _ _ _ _ ([some _, some _, some _] ++ List.replicate 139 none) _
    simp only [List.replicate, List.cons_append, List.nil_append]
    have FK := And.intro @hn (@hpred); have FD := @hfind; have FL := zdum; have cA := @between_walk; have cB := @part_walk; have eA : Eord 8 [(0, 0), (1, 0), (2, 0), (3, 1), (4, 0), (5, 1), (6, 1), (7, 0), (8, 0), (9, 0), (10, 2), (11, 2), (12, 0)] := ⟨trivial⟩; have eB : Eord 21 [(0, 0), (1, 1), (2, 1), (3, 0), (4, 2), (5, 0), (6, 2)] := ⟨trivial⟩
    refine walk ?_
    (repeat' first | exact Lv.nil | apply Lv.cons) <;> (intros; clear eB eA cB cA FL FD FK)
    all_goals first
      | (have hz := portS_off (c := c) (i := i) (by omega)
         first | (rw [hz]; done) | (rw [hz, portH, if_neg (by decide)]; done))
      | (have hz := portS_order (c := c) (i := i) (by omega) ⟨by omega, by assumption⟩
         first | (rw [hz]; done) | (rw [hz, portH, if_neg (by decide)]; done))
      | (have hz := portS_nolink (c := c) (i := i) (by omega) (by omega) hv
         first | (rw [hz]; done) | (rw [hz, portH, if_neg (by decide)]; done))
  | some v =>
    have hfind : ∀ ρ, tlookup (mkTab Tryz.prog) (σ ++ ρ) 83 (.map lm) (.int .i64 (nth c.ports.l i).vl) true = some (.tup [linkTV v, .bool true]) := fun ρ => by
      rw [lookL hm, seenL_find c _ hl, hv]
    have hvm : v ∈ c.vls.l := List.mem_of_find?_eq_some hv
    have hvz : ¬ LinkOff c v := by
      obtain ⟨k, hk, rfl⟩ := List.getElem_of_mem hvm
      have := (linkS_zero (hl k hk)).2.1
      rwa [nth_eq hk] at this
    have hvt := hto v hvm
    have hends : ∀ τ, TPure Tryz.prog 61 [portTV (nth c.ports.l i), linkTV v] τ (.int .i64 (endsS (nth c.ports.l i) v)) := fun τ => ends_walk _ _ _ (by omega) (by omega)
    have hsamp : ∀ τ, TPure Tryz.prog 62 [portTV (nth c.ports.l i), linkTV v] τ (.int .i64 (sampS (nth c.ports.l i) v)) := fun τ => sampling_walk _ _ _ (by omega)
    have hget := seenP_get c (plOf (nth c.ports.l i)) i hp
    have hb : (mGet (seenP c i).1 ⟨(nth c.ports.l i).host, (nth c.ports.l i).out, (nth c.ports.l i).vl, (nth c.ports.l i).udp⟩).getD 0 = 0 ∨ (mGet (seenP c i).1 ⟨(nth c.ports.l i).host, (nth c.ports.l i).out, (nth c.ports.l i).vl, (nth c.ports.l i).udp⟩).getD 0 = 1 := by
      show (mGet (seenP c i).1 (plOf (nth c.ports.l i))).getD 0 = 0 ∨ (mGet (seenP c i).1 (plOf (nth c.ports.l i))).getD 0 = 1
      rw [hget]; split <;> simp
    refine does_of [] [.tmp 6] Tryz.func36 (by kernel_rfl) rfl (by kernel_rfl) fun X hR hN => ?_
    show Tw _ _ _ _ ([some _, some _, some _] ++ List.replicate 139 none) _
    simp only [List.replicate, List.cons_append, List.nil_append]
    have FK := And.intro @hn (And.intro @hpred (@mGet_put)); have FD := And.intro @hfind (And.intro @hlook (And.intro @hlook2 (And.intro @hent (@hent2)))); have FL := zdum; have cA := @between_walk; have cB := @part_walk; have cC := @hends; have cD := @hsamp; have eA : Eord 8 [(0, 0), (1, 0), (2, 0), (3, 1), (4, 0), (5, 1), (6, 1), (7, 0), (8, 0), (9, 0), (10, 2), (11, 2), (12, 0)] := ⟨trivial⟩; have eB : Eord 21 [(0, 0), (1, 1), (2, 1), (3, 0), (4, 2), (5, 0), (6, 2)] := ⟨trivial⟩
    refine walk ?_
    (repeat' first | exact Lv.nil | apply Lv.cons) <;> (intros; clear eB eA cD cC cB cA FL FD FK)
    all_goals try
      have hz := portS_off (c := c) (i := i) (by omega)
      first | (rw [hz]; done) | (rw [hz, portH, if_neg (by decide)]; done)
    all_goals try
      have hz := portS_order (c := c) (i := i) (by omega) ⟨by omega, by assumption⟩
      first | (rw [hz]; done) | (rw [hz, portH, if_neg (by decide)]; done)
    all_goals try
      have hz := portS_host (c := c) (i := i) (by omega) (by omega) (by assumption)
      first | (rw [hz]; done) | (rw [hz, portH, if_neg (by decide)]; done)
    all_goals
      have hoff : ¬ (512 ≤ i ∨ PortOff c (nth c.ports.l i)) := by omega
      have hord : ¬ (0 < i ∧ (nth c.ports.l (i - 1)).id ≥ (nth c.ports.l i).id) := by omega
      have hhost : (nth c.ports.l i).host = nth c.parts.l (nth c.ports.l i).part.toNat := by assumption
      have hkind : (nth c.ports.l i).kind = 1 ∨ (nth c.ports.l i).kind = 2 := by omega
      have hpv := portV_ends (v := v) hkind
      have q1 := endsS_val (nth c.ports.l i) v
      have q2 := sampS_val (nth c.ports.l i) v
    all_goals try
      have hx : portV (nth c.ports.l i) v = endsS (nth c.ports.l i) v := by rw [hpv, if_pos (by assumption)]
      have hz := portS_link' hoff hord hv hhost hx (by assumption)
      first | (rw [hz]; done) | (rw [hz, portH, if_neg (by omega)]; done)
    all_goals
      have he0 : endsS (nth c.ports.l i) v = 0 := by assumption
      rw [he0, if_neg (by decide)] at hpv
    all_goals try
      have hx : portV (nth c.ports.l i) v = sampS (nth c.ports.l i) v := by rw [hpv, if_pos (by assumption)]
      have hz := portS_link' hoff hord hv hhost hx (by assumption)
      first | (rw [hz]; done) | (rw [hz, portH, if_neg (by omega)]; done)
    all_goals try
      have hx : portV (nth c.ports.l i) v = 1 := by rw [hpv, if_neg (by omega), if_pos (by omega)]
      have hz := portS_link' hoff hord hv hhost hx (by decide)
      first | (rw [hz]; done) | (rw [hz, portH, if_neg (by omega)]; done)
    all_goals
      have hx : portV (nth c.ports.l i) v = 0 := by
        rw [hpv]
        first
          | (rw [if_pos (by assumption)]; assumption)
          | (rw [if_neg (by omega), if_neg (by omega)])
    all_goals
      by_cases hk : ∃ k, k < i ∧ plOf (nth c.ports.l k) = plOf (nth c.ports.l i)
      · obtain ⟨k, hk1, hk2⟩ := hk
        have hz := portS_twice hoff hord hv hhost hx hk1 ((pl_place _ _).1 hk2)
        have h1 : (mGet (seenP c i).1 ⟨(nth c.ports.l i).host, (nth c.ports.l i).out, (nth c.ports.l i).vl, (nth c.ports.l i).udp⟩).getD 0 = 1 := by
          show (mGet (seenP c i).1 (plOf (nth c.ports.l i))).getD 0 = 1
          rw [hget, if_pos ⟨k, hk1, hk2⟩]
        first
          | (exfalso; omega)
          | (rw [hz]; done)
          | (rw [hz, portH, if_pos (by decide)]; rfl)
      · have hz := portS_ok hoff hord hv hhost hx fun k hk1 h2 => hk ⟨k, hk1, (pl_place _ _).2 h2⟩
        have h1 : (mGet (seenP c i).1 ⟨(nth c.ports.l i).host, (nth c.ports.l i).out, (nth c.ports.l i).vl, (nth c.ports.l i).udp⟩).getD 0 = 0 := by
          show (mGet (seenP c i).1 (plOf (nth c.ports.l i))).getD 0 = 0
          rw [hget, if_neg hk]
        first
          | (exfalso; omega)
          | (rw [hz]; done)
          | (rw [hz, portH, if_pos (by decide)]; rfl)

end Go.Proofs.YtbhhmnfjjnnkiaaGreat
