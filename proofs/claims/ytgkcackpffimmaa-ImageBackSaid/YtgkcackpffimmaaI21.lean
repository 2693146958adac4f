/- The image: what was printed is read. -/
import Derived.Test.YtgkcackpffimmaaI18
set_option linter.unusedVariables false
set_option linter.unusedSimpArgs false
set_option maxRecDepth 10000
set_option maxHeartbeats 4000000
namespace Go.Proofs.Ytgkcackpffimmaa
open Go.TM

theorem rT_be {k : Nat} {n : Int} {r : List UInt8} : rT k (be k n ++ r) 0 = (be k n, r, 0) := by
  rw [rT_ok (by rw [List.length_append, be_len]; omega), List.take_left' (be_len k n), List.drop_left' (be_len k n)]
theorem rS_be {k : Nat} {n : Int} {r : List UInt8} : rS k (be k n ++ r, 0) = (r, 0) := by unfold rS; rw [rT_be]
theorem rV_be {k : Nat} {n : Int} {r : List UInt8} (h0 : 0 ≤ n) (h1 : n < 256 ^ k) : rV k (be k n ++ r, 0) = n := by unfold rV; rw [rT_be]; exact un_be k n h0 h1
theorem rV2_be {n : Int} {r : List UInt8} (h : F16 n) : rV 2 (be 2 n ++ r, 0) = n := rV_be h.1 (by have := h.2; show n < 65536; omega)
theorem rV4_be {n : Int} {r : List UInt8} (h : F32 n) : rV 4 (be 4 n ++ r, 0) = n := rV_be h.1 (by have := h.2; show n < 4294967296; omega)
theorem rV1_be {n : Int} {r : List UInt8} (h : 0 ≤ n ∧ n ≤ 255) : rV 1 (be 1 n ++ r, 0) = n := rV_be h.1 (by have := h.2; show n < 256; omega)
def Reads {α : Type} (f : RSt → α × RSt) (pr : α → List UInt8) (nf : α → α) (Ok : α → Prop) : Prop := ∀ x r, Ok x → f (pr x ++ r, 0) = (nf x, (r, 0))
theorem tkN_reads {α : Type} {f : RSt → α × RSt} {pr : α → List UInt8} {nf : α → α} {Ok : α → Prop} (hf : Reads f pr nf Ok) : ∀ (l : List α) (r : List UInt8), (∀ x ∈ l, Ok x) → tkN f l.length (l.flatMap pr ++ r, 0) = (l.map nf, (r, 0))
  | [], r, _ => rfl
  | x :: l, r, h => by
    rw [List.length_cons, tkN_ok rfl, List.flatMap_cons, List.append_assoc, hf x _ (h x (by simp))]
    dsimp only
    rw [tkN_reads hf l r fun y hy => h y (by simp [hy])]
    rfl
theorem tk_reads {α : Type} {f : RSt → α × RSt} {pr : α → List UInt8} {nf : α → α} {Ok : α → Prop} (hf : Reads f pr nf Ok) (l : List α) (r : List UInt8) (hl : l.length ≤ 65535) (h : ∀ x ∈ l, Ok x) : tk f (be 2 l.length ++ (l.flatMap pr ++ r), 0) = (l.map nf, (r, 0)) := by
  unfold tk
  rw [rV2_be ⟨by omega, by omega⟩, rS_be, Int.toNat_natCast]
  exact tkN_reads hf l r h
theorem readsI : Reads intR (be 2) id F16 := fun x r h => by
  show (rV 2 (be 2 x ++ r, 0), rS 2 (be 2 x ++ r, 0)) = _
  rw [rV2_be h, rS_be]; rfl
theorem readsW : Reads winR winB id WinF := fun w r h => by
  unfold winR winB
  simp only [List.append_assoc]
  rw [rV2_be h.1, rS_be, rV4_be h.2.1, rS_be, rV4_be h.2.2, rS_be]
  rfl
theorem bits_of {a b c k m : Int} (h : (k = 16 ∧ m = 8 ∧ 0 ≤ a ∧ a < 16 ∧ 0 ≤ c ∧ c < 8) ∨ (k = 64 ∧ m = 32 ∧ 0 ≤ a ∧ a < 4 ∧ 0 ≤ c ∧ c < 32)) (hb : 0 ≤ b ∧ b < 2) :
    (k * a + m * b + c) / k = a ∧ (k * a + m * b + c) / m % 2 = b ∧ (k * a + m * b + c) % m = c ∧ 0 ≤ k * a + m * b + c ∧ k * a + m * b + c ≤ 255 := by
  rcases h with ⟨rfl, rfl, h⟩ | ⟨rfl, rfl, h⟩ <;> omega
theorem flag_is (b : Bool) : ((if b then 1 else 0 : Int) == 1) = b := by cases b <;> rfl
def normL (v : Link) : Link := { v with to := rowOf v.to.l }
theorem readsV : Reads linkR linkB normL LinkF := fun v r h => by
  obtain ⟨h1, h2, h3, h4, h5, h6, h7, h8⟩ := h
  obtain ⟨q1, q2, q3, q4, q5⟩ := bits_of (a := v.bag) (b := if v.high then 1 else 0) (c := v.subs) (k := 16) (m := 8) (.inl ⟨rfl, rfl, h3.1, h3.2, h4.1, h4.2⟩) (flag01 v.high)
  unfold linkR linkB intsB
  simp only [List.append_assoc]
  simp only [rS_be, rV2_be h1, rV2_be h2, rV2_be h5, rV4_be h6, rV1_be ⟨q4, q5⟩, q1, q2, q3, flag_is, tk_reads readsI v.to.l r (by omega) h8, List.map_id]
  rfl
theorem readsP : Reads portR portB id PortF := fun p r h => by
  obtain ⟨h1, h2, h3, h4, h5, h6, h7, h8, h9, h10⟩ := h
  obtain ⟨q1, q2, q3, q4, q5⟩ := bits_of (a := p.kind) (b := if p.out then 1 else 0) (c := p.sub) (k := 64) (m := 32) (.inr ⟨rfl, rfl, h4.1, h4.2, h5.1, h5.2⟩) (flag01 p.out)
  have hi : F32 (p.fresh / 4294967296) := ⟨by omega, by omega⟩
  have lo : F32 (p.fresh % 4294967296) := ⟨by omega, by omega⟩
  have e1 : portHi (portB p ++ r, 0) = p.fresh / 4294967296 := by
    unfold portHi portB
    simp only [List.append_assoc, rS_be, rV4_be hi]
  have e2 : portLo (portB p ++ r, 0) = p.fresh % 4294967296 := by
    unfold portLo portB
    simp only [List.append_assoc, rS_be, rV4_be lo]
  have e3 : port10 (portB p ++ r, 0) = (r, 0) := by
    unfold port10 portB
    simp only [List.append_assoc, rS_be]
  unfold portR TooFresh
  rw [e1, e2, e3, if_neg (by omega), fresh_is hi.1 ⟨lo.1, by omega⟩ (by omega)]
  unfold port0 portN portB
  simp only [List.append_assoc, rS_be, rV4_be h1, rV2_be h2, rV2_be h3, rV2_be h6, rV2_be h7, rV2_be h8, rV2_be h9, rV1_be ⟨q4, q5⟩, q1, q2, q3, flag_is]
  rw [show p.fresh / 4294967296 * 4294967296 + p.fresh % 4294967296 = p.fresh by omega]
  rfl
theorem bad_no {f : RSt → RSt} : ∀ (n : Nat) (s : RSt), (tkN portR n s).2.2 = 0 → badN n s = false
  | 0, s, _ => rfl
  | n + 1, s, h => by
    by_cases hs : s.2 = 0
    · rw [tkN_ok hs] at h
      rw [badN_ok hs, bad_no (f := f) n _ h, Bool.or_false]
      have h1 := tkN_eats eatsP n _ h
      rw [decide_eq_false]
      intro q
      have : (portR s).2.2 = 10 := by unfold portR; rw [if_pos q]
      omega
    · exact badN_err hs
/-- What an image of a network that may be is read as. -/
theorem read_net {c : Cfg} (h : MayC c) (hf : FewC c) (hid : ∀ p ∈ c.ports.l, p.id ≤ 4294967295) :
    ∃ d, imgL c = [65, 70, 68, 88, 0, 1] ++ d ∧ netC11 (d, 0) = ⟨c.hosts, rowOf c.parts.l, c.major, rowOf c.wins.l, rowOf (c.vls.l.map normL), rowOf c.ports.l⟩ ∧ (netPorts (d, 0)).2 = ([], 0) ∧ netBad (d, 0) = false := by
  have fp := h.partF
  have fw := h.winF hf
  have fl := h.linkF hf
  have fo := h.portF hf hid
  obtain ⟨hh1, hh2⟩ := h.hosts
  obtain ⟨hM1, hM2⟩ := h.major
  have l1 := hf.parts
  have l2 := hf.wins
  have l3 := hf.vls
  have l4 := hf.ports
  obtain ⟨d4, k4⟩ : ∃ x, x = be 2 c.ports.l.length ++ (c.ports.l.flatMap portB ++ []) := ⟨_, rfl⟩
  obtain ⟨d3, k3⟩ : ∃ x, x = be 2 c.vls.l.length ++ (c.vls.l.flatMap linkB ++ d4) := ⟨_, rfl⟩
  obtain ⟨d2, k2⟩ : ∃ x, x = be 2 c.wins.l.length ++ (c.wins.l.flatMap winB ++ d3) := ⟨_, rfl⟩
  obtain ⟨d1, k1⟩ : ∃ x, x = be 4 c.major ++ d2 := ⟨_, rfl⟩
  obtain ⟨d0, k0⟩ : ∃ x, x = be 2 c.parts.l.length ++ (c.parts.l.flatMap (be 2) ++ d1) := ⟨_, rfl⟩
  refine ⟨be 2 c.hosts ++ d0, ?_, ?_⟩
  · rw [k0, k1, k2, k3, k4]
    simp only [imgL, intsB, List.append_assoc, List.append_nil]
    rfl
  · have e0 : rS 2 (be 2 c.hosts ++ d0, 0) = (d0, 0) := rS_be
    have v0 : rV 2 (be 2 c.hosts ++ d0, 0) = c.hosts := rV2_be ⟨by omega, by omega⟩
    generalize be 2 c.hosts ++ d0 = d at *
    have e1 : netParts (d, 0) = (c.parts.l.map id, (d1, 0)) := by unfold netParts; rw [e0, k0]; exact tk_reads readsI _ _ (by omega) fp
    have v1 : rV 4 (netParts (d, 0)).2 = c.major := by rw [e1, k1]; exact rV4_be ⟨by omega, by omega⟩
    have e2 : netWins (d, 0) = (c.wins.l.map id, (d3, 0)) := by unfold netWins; rw [e1, k1, rS_be, k2]; exact tk_reads readsW _ _ (by omega) fw
    have e3 : netLinks (d, 0) = (c.vls.l.map normL, (d4, 0)) := by unfold netLinks; rw [e2, k3]; exact tk_reads readsV _ _ (by omega) fl
    have e4 : netPorts (d, 0) = (c.ports.l.map id, ([], 0)) := by unfold netPorts; rw [e3, k4]; exact tk_reads readsP _ _ (by omega) fo
    refine ⟨?_, by rw [e4], ?_⟩
    · unfold netC11
      rw [v0, v1, e1, e2, e3, e4]
      simp only [List.map_id]
    · unfold netBad badP
      exact bad_no (f := fun x => x) _ _ (show (tkN portR _ _).2.2 = 0 from by have := congrArg (fun x => x.2.2) e4; exact this)
end Go.Proofs.Ytgkcackpffimmaa
