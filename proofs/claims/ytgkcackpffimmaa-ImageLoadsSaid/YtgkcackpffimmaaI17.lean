/- The image: Load. -/
import Derived.Test.YtgkcackpffimmaaI16
set_option linter.unusedVariables false
set_option linter.unusedSimpArgs false
set_option maxRecDepth 10000
set_option maxHeartbeats 4000000
namespace Go.Proofs.Ytgkcackpffimmaa
open Go.TM

theorem magic_iff {t : List UInt8} (h : 6 ≤ t.length) : t.take 6 = [65, 70, 68, 88, 0, 1] ↔ (B (t.take 4) = ⟨#[65, 70, 68, 88]⟩ ∧ un ((t.drop 4).take 2) = 1) := by
  rcases t with _ | ⟨a, _ | ⟨b, _ | ⟨c, _ | ⟨d, _ | ⟨e, _ | ⟨f, r⟩⟩⟩⟩⟩⟩
  · simp at h
  · simp at h
  · simp at h
  · simp at h
  · simp at h
  · simp at h
  have hB : B [a, b, c, d] = ⟨#[65, 70, 68, 88]⟩ ↔ [a, b, c, d] = [65, 70, 68, 88] := B_inj (a := [a, b, c, d]) (b := [65, 70, 68, 88])
  have hu : un [e, f] = 256 * (e.toNat : Int) + f.toNat := by simp [un]
  have he := e.toNat_lt
  have hf := f.toNat_lt
  show [a, b, c, d, e, f] = _ ↔ (B [a, b, c, d] = _ ∧ un [e, f] = 1)
  rw [hB, hu]
  constructor
  · intro q
    simp only [List.cons.injEq, and_true] at q
    obtain ⟨rfl, rfl, rfl, rfl, rfl, rfl⟩ := q
    exact ⟨rfl, rfl⟩
  · rintro ⟨q1, q2⟩
    simp only [List.cons.injEq, and_true] at q1
    obtain ⟨rfl, rfl, rfl, rfl⟩ := q1
    have e0 : e = 0 := UInt8.toNat_inj.1 (by show e.toNat = 0; omega)
    have f1 : f = 1 := UInt8.toNat_inj.1 (by show f.toNat = 1; omega)
    rw [e0, f1]
theorem net_at (σ : TS) (z : TObj) (s : RSt) (hr : s.1.length ≤ 100000) : TDoes Try.prog 131 [.ptr (σ.length + 2) 0] (σ ++ [z, .cells (rC s.1 s.2), .cells [.ptr (σ.length + 1) 0, .int .i64 0]]) (cfgTV (netC11 s))
    (σ ++ [z, .cells (rC (netPorts s).2.1 (netPorts s).2.2), .cells [.ptr (σ.length + 1) 0, .int .i64 (if netBad s then 1 else 0)]]) := by
  have := network_walk (σ := σ ++ [z, .cells (rC s.1 s.2), .cells [.ptr (σ.length + 1) 0, .int .i64 0]]) (l := σ.length + 1) (p := σ.length + 2) (s := s) (by simp only [go_sem]) (by simp only [go_sem]) hr
  cases hb : netBad s <;> rw [hb] at this
  · rw [sg_no] at this
    unfold rAt at this
    simp only [go_sem] at this
    simpa using this
  · rw [sg_yes] at this
    unfold rAt at this
    simp only [go_sem] at this
    simpa using this

theorem load_big (s : List UInt8) (hs : s.length ≤ 100000) (hB : ∀ t, (openL s).1 = t → (netPorts (t.drop 6, 0)).2.2 = 0 → BigC (netC11 (t.drop 6, 0))) (σ : TS) : TPure Try.prog 54 [.str (B s)] σ (.tup [cfgTV (loadL s).1, .int .i64 (loadL s).2]) := by
  have ho := fun τ => open_pure s τ (by omega)
  by_cases hb : (openL s).2 = 0
  · have e1 : loadL s = loadT (openL s).1 := by rw [loadL, if_neg (by omega)]
    rw [e1]
    have htl : (openL s).1.length ≤ 100000 := by
      unfold openL
      split
      · simp
      · split
        · simp; omega
        · simp
    have hB := hB _ rfl
    generalize (openL s).1 = t at *
    rw [hb] at ho
    have ht := fun (z c : TObj) => rtext_walk (σ := σ ++ [z, .cells (rC t 0), c]) (l := σ.length + 1) (r := t) (e := 0) (by simp only [go_sem]) 4 (by omega)
    have hu := fun (z c : TObj) (x : RSt) (hx : x.1.length ≤ 100000) => ru16_walk (σ := σ ++ [z, .cells (rC x.1 x.2), c]) (l := σ.length + 1) (r := x.1) (e := x.2) (by simp only [go_sem]) (by omega)
    have herr := fun (z : TObj) (x : RSt) (ρ : TS) => err_walk (σ := σ ++ (z :: .cells (rC x.1 x.2) :: ρ)) (l := σ.length + 1) (r := x.1) (e := x.2) (by simp only [go_sem])
    have hleft := fun (z : TObj) (x : RSt) (ρ : TS) => left_walk (σ := σ ++ (z :: .cells (rC x.1 x.2) :: ρ)) (l := σ.length + 1) (r := x.1) (e := x.2) (by simp only [go_sem])
    simp only [go_sem] at ht hu
    by_cases h6 : t.length < 6
    · rw [loadT, if_pos h6]
      obtain ⟨s1, k1⟩ : ∃ x : RSt, x = (rT 4 t 0).2 := ⟨_, rfl⟩
      have h1 : (rS 2 s1).2 = 10 ∧ s1.1.length ≤ 100000 := by
        rw [k1]
        by_cases h4 : 4 ≤ t.length
        · rw [rT_ok h4]
          refine ⟨?_, by simp; omega⟩
          show (rT 2 (t.drop 4) 0).2.2 = 10
          rw [rT_short (by simp; omega)]
        · rw [rT_short h4]
          exact ⟨by show (rT 2 t 10).2.2 = 10; rw [rT_err (by decide)], htl⟩
      obtain ⟨nm, kn⟩ : ∃ x, x = (rT 4 t 0).1 := ⟨_, rfl⟩
      rw [← kn, ← k1] at ht
      have hu := fun z c => hu z c s1 h1.2
      obtain ⟨s2, k2⟩ : ∃ x : RSt, x = (rT 2 s1.1 s1.2).2 := ⟨_, rfl⟩
      obtain ⟨v2, kv⟩ : ∃ x : Int, x = un (rT 2 s1.1 s1.2).1 := ⟨_, rfl⟩
      rw [← k2, ← kv] at hu
      have h2 : s2.2 = 10 := by rw [k2]; exact h1.1
      clear k1 kn k2 kv h1
      obtain ⟨r2, e2⟩ := s2
      dsimp only at h2
      subst h2
      have herr := fun z ρ => herr z (r2, 10) ρ
      refine pure_of [] [.cell 2 27, .tmp 3] Try.func54 (by kernel_rfl) rfl (by kernel_rfl) fun X hR hN => ?_
      show Tw _ _ _ _ ([some _] ++ List.replicate 99 none) _
      simp only [List.replicate, List.cons_append, List.nil_append]
      have FK := zdum; have FD := zdum; have FL := zdum; have cA := @ho; have cB := @read_walk; have cC := @herr; have dA := @read_walk; have dB := @ht; have dC := @hu; have eA : Eord 5 [(0, 0), (1, 0), (2, 0), (3, 1), (5, 0), (6, 0), (7, 0), (8, 1), (4, 2), (9, 2), (10, 0), (11, 0)] := ⟨trivial⟩; have eB : Eord 12 [(0, 0), (1, 0), (2, 0), (3, 0), (4, 1), (5, 2), (6, 0)] := ⟨trivial⟩
      refine walk ?_
      (repeat' first | exact Lv.nil | apply Lv.cons) <;> (intros; clear eB eA dC dB dA cC cB cA FL FD FK)
      all_goals rfl
    · rw [loadT, if_neg h6]
      have e4 : rT 4 t 0 = (t.take 4, t.drop 4, 0) := rT_ok (by omega)
      have e2 : rT 2 (t.drop 4) 0 = ((t.drop 4).take 2, t.drop 6, 0) := by rw [rT_ok (by simp; omega), List.drop_drop]
      have hu := fun z c => hu z c (t.drop 4, 0) (by simp; omega)
      dsimp only at hu
      rw [e4] at ht
      rw [e2] at hu
      dsimp only at ht hu
      have hmg := magic_iff (t := t) (by omega)
      have h6l : (t.drop 6).length ≤ 100000 := by simp; omega
      have hnet := fun z => net_at σ z (t.drop 6, 0) (by simp; omega)
      have hbig := hB
      have herr0 := fun z ρ => herr z (t.drop 6, 0) ρ
      generalize B (t.take 4) = nm at *
      generalize un ((t.drop 4).take 2) = v2 at *
      by_cases hm : t.take 6 = [65, 70, 68, 88, 0, 1]
      · rw [if_neg (by simpa using hm)]
        obtain ⟨rfl, rfl⟩ := hmg.1 hm
        clear hmg hm
        have herr1 := fun z ρ => herr z (netPorts (t.drop 6, 0)).2 ρ
        have hleft1 := fun z ρ => hleft z (netPorts (t.drop 6, 0)).2 ρ
        clear herr hleft
        rw [loadN]
        dsimp only at hnet herr0
        generalize t.drop 6 = d at *
        generalize (netPorts (d, 0)).2 = q at *
        generalize netBad (d, 0) = b at *
        generalize netC11 (d, 0) = c at *
        obtain ⟨qr, qe⟩ := q
        dsimp only at hnet herr1 hleft1 hbig ⊢
        cases b with
        | true =>
          rw [if_pos rfl]
          simp only [if_true] at hnet
          refine pure_of [] [.cell 2 27, .tmp 3] Try.func54 (by kernel_rfl) rfl (by kernel_rfl) fun X hR hN => ?_
          show Tw _ _ _ _ ([some _] ++ List.replicate 99 none) _
          simp only [List.replicate, List.cons_append, List.nil_append]
          have FK := zdum; have FD := zdum; have FL := zdum; have cA := @ho; have cB := @herr0; have dA := @read_walk; have dB := @ht; have dC := @hu; have dD := @hnet; have eA : Eord 5 [(0, 0), (1, 0), (2, 0), (3, 1), (5, 0), (6, 0), (7, 0), (8, 1), (4, 2), (9, 2), (10, 0), (11, 0)] := ⟨trivial⟩; have eB : Eord 12 [(0, 0), (1, 0), (2, 0), (3, 0), (4, 1), (5, 2), (6, 0)] := ⟨trivial⟩
          refine walk ?_
          (repeat' first | exact Lv.nil | apply Lv.cons) <;> (intros; clear eB eA dD dC dB dA cB cA FL FD FK)
          all_goals rfl
        | false =>
          rw [if_neg (by decide)]
          simp only [Bool.false_eq_true, if_false] at hnet
          by_cases he : qe = 0
          · subst he
            rw [if_neg (by simp)]
            by_cases hl : 0 < qr.length
            · rw [if_pos hl]
              refine pure_of [] [.cell 2 27, .tmp 3] Try.func54 (by kernel_rfl) rfl (by kernel_rfl) fun X hR hN => ?_
              show Tw _ _ _ _ ([some _] ++ List.replicate 99 none) _
              simp only [List.replicate, List.cons_append, List.nil_append]
              have FK := zdum; have FD := zdum; have FL := zdum; have cA := @ho; have cB := @herr0; have cC := @herr1; have cD := @hleft1; have dA := @read_walk; have dB := @ht; have dC := @hu; have dD := @hnet; have eA : Eord 5 [(0, 0), (1, 0), (2, 0), (3, 1), (5, 0), (6, 0), (7, 0), (8, 1), (4, 2), (9, 2), (10, 0), (11, 0)] := ⟨trivial⟩; have eB : Eord 12 [(0, 0), (1, 0), (2, 0), (3, 0), (4, 1), (5, 2), (6, 0)] := ⟨trivial⟩
              refine walk ?_
              (repeat' first | exact Lv.nil | apply Lv.cons) <;> (intros; clear eB eA dD dC dB dA cD cC cB cA FL FD FK)
              all_goals rfl
            · rw [if_neg hl]
              have hck := check_big c (hbig rfl)
              by_cases hc : (checkS c).2.2 = 0
              · rw [if_neg (by omega)]
                refine pure_of [] [.cell 2 27, .tmp 3] Try.func54 (by kernel_rfl) rfl (by kernel_rfl) fun X hR hN => ?_
                show Tw _ _ _ _ ([some _] ++ List.replicate 99 none) _
                simp only [List.replicate, List.cons_append, List.nil_append]
                have FK := @hc; have FD := zdum; have FL := zdum; have cA := @ho; have cB := @herr0; have cC := @herr1; have cD := @hleft1; have cE := @hck; have dA := @read_walk; have dB := @ht; have dC := @hu; have dD := @hnet; have eA : Eord 5 [(0, 0), (1, 0), (2, 0), (3, 1), (5, 0), (6, 0), (7, 0), (8, 1), (4, 2), (9, 2), (10, 0), (11, 0)] := ⟨trivial⟩; have eB : Eord 12 [(0, 0), (1, 0), (2, 0), (3, 0), (4, 1), (5, 2), (6, 0)] := ⟨trivial⟩
                refine walk ?_
                (repeat' first | exact Lv.nil | apply Lv.cons) <;> (intros; clear eB eA dD dC dB dA cE cD cC cB cA FL FD FK)
              · rw [if_pos hc]
                refine pure_of [] [.cell 2 27, .tmp 3] Try.func54 (by kernel_rfl) rfl (by kernel_rfl) fun X hR hN => ?_
                show Tw _ _ _ _ ([some _] ++ List.replicate 99 none) _
                simp only [List.replicate, List.cons_append, List.nil_append]
                have FK := @hc; have FD := zdum; have FL := zdum; have cA := @ho; have cB := @herr0; have cC := @herr1; have cD := @hleft1; have cE := @hck; have dA := @read_walk; have dB := @ht; have dC := @hu; have dD := @hnet; have eA : Eord 5 [(0, 0), (1, 0), (2, 0), (3, 1), (5, 0), (6, 0), (7, 0), (8, 1), (4, 2), (9, 2), (10, 0), (11, 0)] := ⟨trivial⟩; have eB : Eord 12 [(0, 0), (1, 0), (2, 0), (3, 0), (4, 1), (5, 2), (6, 0)] := ⟨trivial⟩
                refine walk ?_
                (repeat' first | exact Lv.nil | apply Lv.cons) <;> (intros; clear eB eA dD dC dB dA cE cD cC cB cA FL FD FK)
                all_goals rfl
          · rw [if_pos he]
            refine pure_of [] [.cell 2 27, .tmp 3] Try.func54 (by kernel_rfl) rfl (by kernel_rfl) fun X hR hN => ?_
            show Tw _ _ _ _ ([some _] ++ List.replicate 99 none) _
            simp only [List.replicate, List.cons_append, List.nil_append]
            have FK := @he; have FD := zdum; have FL := zdum; have cA := @ho; have cB := @herr0; have cC := @herr1; have dA := @read_walk; have dB := @ht; have dC := @hu; have dD := @hnet; have eA : Eord 5 [(0, 0), (1, 0), (2, 0), (3, 1), (5, 0), (6, 0), (7, 0), (8, 1), (4, 2), (9, 2), (10, 0), (11, 0)] := ⟨trivial⟩; have eB : Eord 12 [(0, 0), (1, 0), (2, 0), (3, 0), (4, 1), (5, 2), (6, 0)] := ⟨trivial⟩
            refine walk ?_
            (repeat' first | exact Lv.nil | apply Lv.cons) <;> (intros; clear eB eA dD dC dB dA cC cB cA FL FD FK)
            all_goals rfl
      · rw [if_pos hm]
        have hq : ¬ (nm = ⟨#[65, 70, 68, 88]⟩ ∧ v2 = 1) := fun q => hm (hmg.2 q)
        dsimp only at herr0
        by_cases g1 : nm = ⟨#[65, 70, 68, 88]⟩
        · have g2 : ¬ v2 = 1 := fun q => hq ⟨g1, q⟩
          subst g1
          refine pure_of [] [.cell 2 27, .tmp 3] Try.func54 (by kernel_rfl) rfl (by kernel_rfl) fun X hR hN => ?_
          show Tw _ _ _ _ ([some _] ++ List.replicate 99 none) _
          simp only [List.replicate, List.cons_append, List.nil_append]
          have FK := @g2; have FD := zdum; have FL := zdum; have cA := @ho; have cB := @herr0; have dA := @read_walk; have dB := @ht; have dC := @hu; have eA : Eord 5 [(0, 0), (1, 0), (2, 0), (3, 1), (5, 0), (6, 0), (7, 0), (8, 1), (4, 2), (9, 2), (10, 0), (11, 0)] := ⟨trivial⟩; have eB : Eord 12 [(0, 0), (1, 0), (2, 0), (3, 0), (4, 1), (5, 2), (6, 0)] := ⟨trivial⟩
          refine walk ?_
          (repeat' first | exact Lv.nil | apply Lv.cons) <;> (intros; clear eB eA dC dB dA cB cA FL FD FK)
          all_goals rfl
        · refine pure_of [] [.cell 2 27, .tmp 3] Try.func54 (by kernel_rfl) rfl (by kernel_rfl) fun X hR hN => ?_
          show Tw _ _ _ _ ([some _] ++ List.replicate 99 none) _
          simp only [List.replicate, List.cons_append, List.nil_append]
          have FK := @g1; have FD := zdum; have FL := zdum; have cA := @ho; have cB := @herr0; have dA := @read_walk; have dB := @ht; have dC := @hu; have eA : Eord 5 [(0, 0), (1, 0), (2, 0), (3, 1), (5, 0), (6, 0), (7, 0), (8, 1), (4, 2), (9, 2), (10, 0), (11, 0)] := ⟨trivial⟩; have eB : Eord 12 [(0, 0), (1, 0), (2, 0), (3, 0), (4, 1), (5, 2), (6, 0)] := ⟨trivial⟩
          refine walk ?_
          (repeat' first | exact Lv.nil | apply Lv.cons) <;> (intros; clear eB eA dC dB dA cB cA FL FD FK)
          all_goals rfl
  · have e1 : loadL s = (noC, (openL s).2) := by rw [loadL, if_pos hb]
    rw [e1]
    refine pure_of [] [.cell 2 27, .tmp 3] Try.func54 (by kernel_rfl) rfl (by kernel_rfl) fun X hR hN => ?_
    show Tw _ _ _ _ ([some _] ++ List.replicate 99 none) _
    simp only [List.replicate, List.cons_append, List.nil_append]
    have FK := @hb; have FD := zdum; have FL := zdum; have cA := @ho
    refine walk ?_
    (repeat' first | exact Lv.nil | apply Lv.cons) <;> (intros; clear cA FL FD FK)
    all_goals rfl
theorem load_walk (s : List UInt8) (hs : s.length ≤ 5000) (σ : TS) : TPure Try.prog 54 [.str (B s)] σ (.tup [cfgTV (loadL s).1, .int .i64 (loadL s).2]) :=
  load_big s (by omega) (fun t ht h => netC_big (by
    have : (openL s).1.length ≤ s.length := by
      unfold openL
      split
      · simp
      · split
        · simp
        · simp
    rw [ht] at this
    simp
    omega) h) σ
end Go.Proofs.Ytgkcackpffimmaa
