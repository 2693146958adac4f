/- The image: what is loaded is encoded as the same bytes. -/
import Derived.Test.YtgkcackpffimmaaI17
import Derived.Test.YtgkcackpffimmaaI4a
set_option linter.unusedVariables false
set_option linter.unusedSimpArgs false
set_option maxRecDepth 10000
set_option maxHeartbeats 4000000
namespace Go.Proofs.Ytgkcackpffimmaa
open Go.TM

theorem rS_pr {k : Nat} {s : RSt} (h : (rS k s).2 = 0) : s.1 = be k (rV k s) ++ (rS k s).1 := by
  have h1 := rS_ok h
  unfold rS rV rT at *
  rw [if_neg (by omega)] at *
  split at h
  · rename_i q
    rw [if_pos q]
    show s.1 = be k (un (s.1.take k)) ++ s.1.drop k
    have := be_un (s.1.take k)
    rw [List.length_take, Nat.min_eq_left q] at this
    rw [this, List.take_append_drop]
  · cases h
def Prints {α : Type} (f : RSt → α × RSt) (pr : α → List UInt8) : Prop := ∀ s, (f s).2.2 = 0 → s.1 = pr (f s).1 ++ (f s).2.1
theorem tkN_pr {α : Type} {f : RSt → α × RSt} {k : Nat} {pr : α → List UInt8} (he : Eats f k) (hf : Prints f pr) : ∀ (n : Nat) (s : RSt), (tkN f n s).2.2 = 0 → s.1 = (tkN f n s).1.flatMap pr ++ (tkN f n s).2.1 ∧ (tkN f n s).1.length = n
  | 0, s, h => by rw [tkN]; exact ⟨rfl, rfl⟩
  | n + 1, s, h => by
    by_cases hs : s.2 = 0
    · rw [tkN_ok hs] at h ⊢
      have h1 := tkN_eats he n _ h
      have h2 := tkN_pr he hf n _ h
      have h3 := hf s h1.1
      refine ⟨?_, ?_⟩
      · show s.1 = ((f s).1 :: (tkN f n (f s).2).1).flatMap pr ++ (tkN f n (f s).2).2.1
        rw [List.flatMap_cons, List.append_assoc, ← h2.1, ← h3]
      · show ((f s).1 :: (tkN f n (f s).2).1).length = _
        rw [List.length_cons, h2.2]
    · rw [tkN_err hs] at h; exact absurd h hs
theorem tk_pr {α : Type} {f : RSt → α × RSt} {k : Nat} {pr : α → List UInt8} (he : Eats f k) (hf : Prints f pr) (s : RSt) (h : (tk f s).2.2 = 0) : s.1 = (be 2 (tk f s).1.length ++ (tk f s).1.flatMap pr) ++ (tk f s).2.1 := by
  have h1 := tkN_eats he _ _ h
  have h2 := tkN_pr he hf _ _ h
  have h3 := rS_pr h1.1
  have h4 := rV2_le s
  have h5 : ((tk f s).1.length : Int) = rV 2 s := by
    show ((tkN f (rV 2 s).toNat (rS 2 s)).1.length : Int) = _
    rw [h2.2]; omega
  rw [h5, List.append_assoc]
  show s.1 = be 2 (rV 2 s) ++ ((tkN f (rV 2 s).toNat (rS 2 s)).1.flatMap pr ++ (tkN f (rV 2 s).toNat (rS 2 s)).2.1)
  rw [← h2.1]
  exact h3
theorem printsI : Prints intR (be 2) := fun s h => rS_pr (k := 2) h
theorem printsW : Prints winR winB := fun s h => by
  have h3 := rS_ok (k := 4) h
  have h2 := rS_ok (k := 4) h3.1
  have p3 := rS_pr (k := 4) h
  have p2 := rS_pr (k := 4) h3.1
  have p1 := rS_pr (k := 2) h2.1
  show s.1 = (be 2 (rV 2 s) ++ be 4 (rV 4 (rS 2 s)) ++ be 4 (rV 4 (rS 4 (rS 2 s)))) ++ (rS 4 (rS 4 (rS 2 s))).1
  rw [List.append_assoc, List.append_assoc, ← p3, ← p2, ← p1]
theorem bits_back (n : Int) (a b : Int) (h : 0 ≤ n ∧ n ≤ 255) : (a = 16 ∧ b = 8) ∨ (a = 64 ∧ b = 32) → a * (n / a) + b * (if (n / b % 2 == 1) = true then 1 else 0) + n % b = n := by
  rintro (⟨rfl, rfl⟩ | ⟨rfl, rfl⟩)
  · by_cases q : n / 8 % 2 = 1
    · rw [if_pos (by simpa using q)]; omega
    · rw [if_neg (by simpa using q)]; omega
  · by_cases q : n / 32 % 2 = 1
    · rw [if_pos (by simpa using q)]; omega
    · rw [if_neg (by simpa using q)]; omega
theorem printsV : Prints linkR linkB := fun s h => by
  have h6 := tk_eats eatsI _ h
  have h5 := rS_ok (k := 4) h6.1
  have h4 := rS_ok (k := 2) h5.1
  have h3 := rS_ok (k := 1) h4.1
  have h2 := rS_ok (k := 2) h3.1
  have p6 := tk_pr eatsI printsI _ h
  have p5 := rS_pr (k := 4) h6.1
  have p4 := rS_pr (k := 2) h5.1
  have p3 := rS_pr (k := 1) h4.1
  have p2 := rS_pr (k := 2) h3.1
  have p1 := rS_pr (k := 2) h2.1
  have hb := bits_back (rV 1 (rS 2 (rS 2 s))) 16 8 (rV1_le _) (.inl ⟨rfl, rfl⟩)
  unfold linkB linkR
  dsimp only
  rw [hb]
  show s.1 = _
  simp only [List.append_assoc, intsB, rowOf]
  simp only [List.append_assoc] at p6
  rw [← p6, ← p5, ← p4, ← p3, ← p2, ← p1]
theorem ior_i64 {a b n : Int} (h : ior .u64 a b = n) (hn : n ≤ 9223372036854775807) : ior .i64 a b = n := by
  unfold ior at h ⊢
  rw [show IntKind.bits .u64 = 64 from rfl] at h
  rw [show IntKind.bits .i64 = 64 from rfl]
  have h1 := (BitVec.ofInt 64 a ||| BitVec.ofInt 64 b).isLt
  generalize (BitVec.ofInt 64 a ||| BitVec.ofInt 64 b).toNat = m at *
  rw [wrapU64_of (by omega) (by omega)] at h
  rw [wrap64_of (by omega) (by omega)]
  exact h
theorem fresh_is {hi lo : Int} (h1 : 0 ≤ hi) (h2 : 0 ≤ lo ∧ lo < 4294967296) (h3 : hi * 4294967296 + lo ≤ 1099511627776) : ior .i64 (ishl .i64 hi 32) lo = hi * 4294967296 + lo := by
  have k1 : ishl .i64 hi 32 = hi * 2 ^ 32 := by unfold ishl; exact wrap64_of (by show _ ≤ hi * 4294967296; omega) (by show hi * 4294967296 ≤ _; omega)
  have k2 : ior .u64 (hi * 2 ^ 32) lo = hi * 4294967296 + lo := ior_low 32 h1 h2.1 (by show lo < 4294967296; omega) (by show hi * 4294967296 + lo < 18446744073709551616; omega)
  rw [k1]
  exact ior_i64 k2 (by omega)
theorem printsP : Prints portR portB := fun s h => by
  unfold portR at h ⊢
  split at h
  · cases h
  · rename_i q
    rw [if_neg q]
    have h10 := rS_ok (k := 4) h
    have h9 := rS_ok (k := 4) h10.1
    have h8 := rS_ok (k := 2) h9.1
    have h7 := rS_ok (k := 2) h8.1
    have h6 := rS_ok (k := 2) h7.1
    have h5 := rS_ok (k := 2) h6.1
    have h4 := rS_ok (k := 1) h5.1
    have h3 := rS_ok (k := 2) h4.1
    have h2 := rS_ok (k := 2) h3.1
    have p10 := rS_pr (k := 4) h
    have p9 := rS_pr (k := 4) h10.1
    have p8 := rS_pr (k := 2) h9.1
    have p7 := rS_pr (k := 2) h8.1
    have p6 := rS_pr (k := 2) h7.1
    have p5 := rS_pr (k := 2) h6.1
    have p4 := rS_pr (k := 1) h5.1
    have p3 := rS_pr (k := 2) h4.1
    have p2 := rS_pr (k := 2) h3.1
    have p1 := rS_pr (k := 4) h2.1
    have hhi : 0 ≤ portHi s ∧ portHi s < 4294967296 := rV_range (k := 4) _ (by omega)
    have hlo : 0 ≤ portLo s ∧ portLo s < 4294967296 := rV_range (k := 4) _ (by omega)
    have hf : portHi s * 4294967296 + portLo s ≤ 1099511627776 := by
      have h0 : (port10 s).2 = 0 := h
      exact Decidable.byContradiction fun g => q ⟨h0, by omega⟩
    have hb := bits_back (portN s) 64 32 (rV1_le _) (.inr ⟨rfl, rfl⟩)
    rw [fresh_is hhi.1 hlo hf]
    generalize hg : portHi s * 4294967296 + portLo s = fr at *
    have d1 : fr / 4294967296 = portHi s := by omega
    have d2 : fr % 4294967296 = portLo s := by omega
    unfold portB port0
    dsimp only
    rw [hb, d1, d2]
    unfold portN portHi portLo port10
    simp only [List.append_assoc]
    rw [← p10, ← p9, ← p8, ← p7, ← p6, ← p5, ← p4, ← p3, ← p2, ← p1]
theorem print_net {d : List UInt8} (h : (netPorts (d, 0)).2.2 = 0) (hl : ¬ 0 < (netPorts (d, 0)).2.1.length) : imgL (netC11 (d, 0)) = [65, 70, 68, 88, 0, 1] ++ d := by
  have h4 := tk_eats eatsP _ h
  have h3 := tk_eats eatsV _ h4.1
  have h2 := tk_eats eatsW _ h3.1
  have h1 := rS_ok (k := 4) h2.1
  have h0 := tk_eats eatsI _ h1.1
  have p5 := tk_pr eatsP printsP _ h
  have p4 := tk_pr eatsV printsV _ h4.1
  have p3 := tk_pr eatsW printsW _ h3.1
  have p2 := rS_pr (k := 4) h2.1
  have p1 := tk_pr eatsI printsI _ h1.1
  have p0 := rS_pr (k := 2) h0.1
  have e : (netPorts (d, 0)).2.1 = [] := List.eq_nil_of_length_eq_zero (by omega)
  change (netLinks (d, 0)).2.1 = (be 2 (netPorts (d, 0)).1.length ++ (netPorts (d, 0)).1.flatMap portB) ++ (netPorts (d, 0)).2.1 at p5
  change (netWins (d, 0)).2.1 = (be 2 (netLinks (d, 0)).1.length ++ (netLinks (d, 0)).1.flatMap linkB) ++ (netLinks (d, 0)).2.1 at p4
  change (rS 4 (netParts (d, 0)).2).1 = (be 2 (netWins (d, 0)).1.length ++ (netWins (d, 0)).1.flatMap winB) ++ (netWins (d, 0)).2.1 at p3
  change (netParts (d, 0)).2.1 = be 4 (rV 4 (netParts (d, 0)).2) ++ (rS 4 (netParts (d, 0)).2).1 at p2
  change (rS 2 (d, 0)).1 = (be 2 (netParts (d, 0)).1.length ++ (netParts (d, 0)).1.flatMap (be 2)) ++ (netParts (d, 0)).2.1 at p1
  change d = be 2 (rV 2 (d, 0)) ++ (rS 2 (d, 0)).1 at p0
  rw [e, List.append_nil] at p5
  have hd : [65, 70, 68, 88, 0, 1] ++ d = [65, 70, 68, 88] ++ be 2 1 ++ (be 2 (rV 2 (d, 0)) ++ (rS 2 (d, 0)).1) := by rw [← p0]; rfl
  rw [hd, p1, p2, p3, p4, p5]
  simp only [imgL, netC11, rowOf, intsB, List.append_assoc]
end Go.Proofs.Ytgkcackpffimmaa
