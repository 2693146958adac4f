/- What the image's closures write. -/
import Derived.Test.YtgkcackpffimmaaI1
import Derived.Test.YtgkcackpffimmaaD0
set_option linter.unusedVariables false
set_option linter.unusedSimpArgs false
set_option maxRecDepth 10000
set_option maxHeartbeats 4000000
namespace Go.Proofs.Ytgkcackpffimmaa
open Go.TM

def winB (w : Win) : List UInt8 := be 2 w.part ++ be 4 w.begin_ ++ be 4 w.long
def intsB (l : List Int) : List UInt8 := be 2 l.length ++ l.flatMap (be 2)
def linkB (v : Link) : List UInt8 := be 2 v.id ++ be 2 v.host ++ be 1 (16 * v.bag + 8 * (if v.high then 1 else 0) + v.subs) ++ be 2 v.smax ++ be 4 v.skew ++ intsB v.to.l
def portB (p : Port) : List UInt8 := be 4 p.id ++ be 2 p.host ++ be 2 p.part ++ be 1 (64 * p.kind + 32 * (if p.out then 1 else 0) + p.sub) ++ be 2 p.vl ++ be 2 p.udp ++ be 2 p.size ++ be 2 p.depth ++ be 4 (p.fresh / 4294967296) ++ be 4 (p.fresh % 4294967296)
theorem flat_len2 {α : Type} {f : α → List UInt8} {k : Nat} (hf : ∀ x, (f x).length = k) : ∀ l : List α, (l.flatMap f).length = l.length * k
  | [] => by simp
  | x :: l => by rw [List.flatMap_cons, List.length_append, hf, flat_len2 hf l, List.length_cons, Nat.add_mul]; omega
abbrev F16 (n : Int) : Prop := 0 ≤ n ∧ n ≤ 65535
abbrev F32 (n : Int) : Prop := 0 ≤ n ∧ n ≤ 4294967295

theorem flag_walk (b : Bool) (σ : TS) : TPure Try.prog 95 [.bool b] σ (.int .i64 (if b then 1 else 0)) := by
  cases b
  · refine pure_of [] [.tmp 2] Try.func95 (by kernel_rfl) rfl (by kernel_rfl) fun X hR hN => ?_
    show Tw _ _ _ _ ([some _] ++ List.replicate 3 none) _
    simp only [List.replicate, List.cons_append, List.nil_append]
    have FK := zdum; have FD := zdum; have FL := zdum
    refine walk ?_
    (repeat' first | exact Lv.nil | apply Lv.cons) <;> (intros; clear FL FD FK)
    all_goals rfl
  · refine pure_of [] [.tmp 2] Try.func95 (by kernel_rfl) rfl (by kernel_rfl) fun X hR hN => ?_
    show Tw _ _ _ _ ([some _] ++ List.replicate 3 none) _
    simp only [List.replicate, List.cons_append, List.nil_append]
    have FK := zdum; have FD := zdum; have FL := zdum
    refine walk ?_
    (repeat' first | exact Lv.nil | apply Lv.cons) <;> (intros; clear FL FD FK)
    all_goals rfl
theorem linkBits_walk (σ : TS) : TPure Try.prog 94 [] σ (three 4 1 3) := by
  refine pure_of [] [.tmp 0] Try.func94 (by kernel_rfl) rfl (by kernel_rfl) fun X hR hN => ?_
  show Tw _ _ _ _ ([] ++ List.replicate 2 none) _
  simp only [List.replicate, List.cons_append, List.nil_append]
  have FK := zdum; have FD := zdum; have FL := zdum
  refine walk ?_
  (repeat' first | exact Lv.nil | apply Lv.cons) <;> (intros; clear FL FD FK)
theorem portBits_walk (σ : TS) : TPure Try.prog 98 [] σ (three 2 1 5) := by
  refine pure_of [] [.tmp 0] Try.func98 (by kernel_rfl) rfl (by kernel_rfl) fun X hR hN => ?_
  show Tw _ _ _ _ ([] ++ List.replicate 2 none) _
  simp only [List.replicate, List.cons_append, List.nil_append]
  have FK := zdum; have FD := zdum; have FL := zdum
  refine walk ?_
  (repeat' first | exact Lv.nil | apply Lv.cons) <;> (intros; clear FL FD FK)
theorem flag01 (b : Bool) : 0 ≤ (if b then 1 else 0 : Int) ∧ (if b then 1 else 0 : Int) < 2 := by cases b <;> simp

section
variable {σ : TS} {l t : Nat} {bs : List UInt8} (hl : σ[l]? = some (.cells (wC t bs false))) (ht : σ[t]? = some (.right bs.length 1))
include hl ht
theorem layI_walk (r : Row Int) (hn : r.l.length ≤ 65535) (hx : ∀ x ∈ r.l, F16 x) (hb : bs.length ≤ 10000000) : TDoes Try.prog 87 [.ptr l 0, rowTV intC r, .func (.func 86) [.ptr l 0] []] σ (.tup []) (wAt σ l t (bs ++ intsB r.l)) := by
  have hw := WB.of hl ht
  have hsame := wAt_same hl ht
  have hTu : ∀ b, Turned σ (wAt σ l t b) := fun b => Turned.set (Turned.set (Turned.refl _) rfl) (by simp [TObj.fits, TV.fits, TV.fitsL, hw.ht, bvL_fits])
  obtain ⟨b0, e0⟩ : ∃ b, b = bs ++ be 2 r.l.length := ⟨_, rfl⟩
  have a0 := u16_to hw (n := r.l.length) (by omega) (by omega) e0 []
  rw [hsame] at a0
  simp only [List.append_nil] at a0
  have hlb : b0.length ≤ 10000002 := by rw [e0, List.length_append, be_len]; omega
  refine does_of [] [] Try.func87 (by kernel_rfl) rfl (by kernel_rfl) fun X hR hN => ?_
  show Tw _ _ _ _ ([some _, some _, some _] ++ List.replicate 19 none) _
  simp only [List.replicate, List.cons_append, List.nil_append]
  have FK := zdum; have FD := zdum; have FL := zdum; have dA := @a0
  refine walk ?_
  (repeat' first | exact Lv.nil | apply Lv.cons) <;> (intros; clear dA FL FD FK)
  refine T_each (α := Nat) (fun i => [none, none, some (some (.func (.func 86) [.ptr l 0] [])), none, none, none, none, none, none, none, none, none, some (some (rowTV intC r)), some (some (.int .i64 r.l.length)), some (some (.int .i64 i)), none, none, none, none, none, none, none]) (fun i => i ≤ r.l.length) (fun i => r.l.length - i) (fun i => wAt σ l t (b0 ++ (r.l.take i).flatMap (be 2))) ?_ ?_
  · refine ⟨0, ⟨rfl, rfl, rfl, rfl, trivial⟩, Nat.zero_le _, ?_⟩
    simp only [List.take_zero, List.flatMap_nil, List.append_nil]
  · rintro i q hi
    show Tw _ _ _ _ ([q 0, q 1, some (.func (.func 86) [.ptr l 0] []), q 3, q 4, q 5, q 6, q 7, q 8, q 9, q 10, q 11, some (rowTV intC r), some (.int .i64 r.l.length), some (.int .i64 i), q 15, q 16, q 17, q 18, q 19, q 20, q 21]) (wAt σ l t (b0 ++ (r.l.take i).flatMap (be 2)))
    have hlen : ((r.l.take i).flatMap (be 2)).length = i * 2 := by rw [flat_len2 (fun n => be_len 2 n), List.length_take, Nat.min_eq_left hi]
    rcases Nat.lt_or_ge i r.l.length with hlt | hge
    · have a1 := u16_to hw (n := nth r.l i) (b := b0 ++ (r.l.take i).flatMap (be 2)) (hx _ (nth_mem hlt)) (by rw [List.length_append, hlen]; omega) (e := (show b0 ++ (r.l.take (i + 1)).flatMap (be 2) = _ by rw [List.take_succ_eq_append_getElem hlt, List.flatMap_append, ← nth_eq hlt]; simp)) []
      simp only [List.append_nil] at a1
      have FK := zdum; have FD := zdum; have FL := zdum; have dA := @a1
      refine walk ?_
      (repeat' first | exact Lv.nil | apply Lv.cons) <;> (intros; clear dA FL FD FK)
      refine ⟨(i + 1), ?_, ⟨rfl, rfl, rfl, rfl, trivial⟩, ?_, (by first | rfl | trivial)⟩
      all_goals (try dsimp only)
      all_goals (omega)
    · obtain rfl : i = r.l.length := by omega
      have FK := zdum; have FD := zdum; have FL := zdum
      refine walk ?_
      (repeat' first | exact Lv.nil | apply Lv.cons) <;> (intros; clear FL FD FK)
      all_goals (rw [List.take_length, e0, intsB, List.append_assoc])
end

theorem fresh_hi {n : Int} (h : 0 ≤ n ∧ n ≤ 1099511627776) : ishr .i64 n 32 = n / 4294967296 := by
  rw [show (32 : Int) = ((32 : Nat) : Int) from rfl, ishr_nat _ _ _ (by decide)]; rfl
theorem fresh_lo {n : Int} (h : 0 ≤ n ∧ n ≤ 1099511627776) : iand .i64 n 4294967295 = n % 4294967296 := by
  obtain ⟨m, rfl⟩ : ∃ m : Nat, n = m := ⟨n.toNat, by omega⟩
  unfold iand
  show IntKind.i64.wrap ((BitVec.ofInt 64 (m : Int) &&& BitVec.ofInt 64 ((4294967295 : Nat) : Int)).toNat : Int) = _
  rw [BitVec.ofInt_natCast, BitVec.ofInt_natCast, BitVec.toNat_and, BitVec.toNat_ofNat, BitVec.toNat_ofNat, Nat.mod_eq_of_lt (show m < 2 ^ 64 by omega), Nat.mod_eq_of_lt (show 4294967295 < 2 ^ 64 by decide), show (4294967295 : Nat) = 2 ^ 32 - 1 from rfl, Nat.and_two_pow_sub_one_eq_mod]
  rw [wrap64_of (by omega) (by omega)]
  omega

section
variable {σ : TS} {l t p : Nat} {bs : List UInt8} (hl : σ[l]? = some (.cells (wC t bs false))) (ht : σ[t]? = some (.right bs.length 1)) (hp : σ[p]? = some (.cells [.ptr l 0]))
include hl ht hp

theorem win_walk (w : Win) (h1 : F16 w.part) (h2 : F32 w.begin_) (h3 : F32 w.long) (hb : bs.length ≤ 10000000) : TDoes Try.prog 90 [.agg (winC w), .ptr p 0] σ (.tup []) (wAt σ l t (bs ++ winB w)) := by
  have hw := WB.of hl ht
  have hsame := wAt_same hl ht
  have hpl : p ≠ l := fun e => by subst e; rw [hl] at hp; cases hp
  have hpt : p ≠ t := fun e => by subst e; rw [ht] at hp; cases hp
  have hpr := lt_of_get hp
  have hgp : ∀ b ρ, (wAt σ l t b ++ ρ)[p]? = some (.cells [.ptr l 0]) := fun b ρ => by rw [List.getElem?_append_left (by rw [wAt_len]; exact hpr), wAt_p hpl hpt]; exact hp
  have hTu : ∀ b, Turned σ (wAt σ l t b) := fun b => Turned.set (Turned.set (Turned.refl _) rfl) (by simp [TObj.fits, TV.fits, TV.fitsL, hw.ht, bvL_fits])
  obtain ⟨b1, e1⟩ : ∃ b, b = bs ++ be 2 w.part := ⟨_, rfl⟩
  obtain ⟨b2, e2⟩ : ∃ b, b = b1 ++ be 4 w.begin_ := ⟨_, rfl⟩
  obtain ⟨b3, e3⟩ : ∃ b, b = b2 ++ be 4 w.long := ⟨_, rfl⟩
  have l1 : b1.length = bs.length + 2 := by rw [e1, List.length_append, be_len]
  have l2 : b2.length = bs.length + 6 := by rw [e2, List.length_append, be_len, l1]
  have a1 := u16_to hw h1 (by omega) e1
  rw [hsame] at a1
  have a2 := u32_to hw h2 (by omega) e2
  have a3 := u32_to hw h3 (by omega) e3
  have he : bs ++ winB w = b3 := by rw [e3, e2, e1, winB]; simp
  rw [he]
  clear e1 e2 e3 he
  refine does_of [] [] Try.func90 (by kernel_rfl) rfl (by kernel_rfl) fun X hR hN => ?_
  show Tw _ _ _ _ ([some _, some _] ++ List.replicate 13 none) _
  simp only [List.replicate, List.cons_append, List.nil_append]
  have FK := And.intro @hp (@hgp); have FD := zdum; have FL := zdum; have dA := @a1; have dB := @a2; have dC := @a3
  refine walk ?_
  (repeat' first | exact Lv.nil | apply Lv.cons) <;> (intros; clear dC dB dA FL FD FK)

theorem link_writes (v : Link) (h1 : F16 v.id) (h2 : F16 v.host) (h3 : 0 ≤ v.bag ∧ v.bag < 16) (h4 : 0 ≤ v.subs ∧ v.subs < 8) (h5 : F16 v.smax) (h6 : F32 v.skew) (h7 : v.to.l.length ≤ 65535) (h8 : ∀ x ∈ v.to.l, F16 x) (hb : bs.length ≤ 9000000) :
    TDoes Try.prog 92 [.agg (linkC v), .ptr p 0] σ (.tup []) (wAt σ l t (bs ++ linkB v)) := by
  have hw := WB.of hl ht
  have hsame := wAt_same hl ht
  have hpl : p ≠ l := fun e => by subst e; rw [hl] at hp; cases hp
  have hpt : p ≠ t := fun e => by subst e; rw [ht] at hp; cases hp
  have hpr := lt_of_get hp
  have hgp : ∀ b ρ, (wAt σ l t b ++ ρ)[p]? = some (.cells [.ptr l 0]) := fun b ρ => by rw [List.getElem?_append_left (by rw [wAt_len]; exact hpr), wAt_p hpl hpt]; exact hp
  have hTu : ∀ b, Turned σ (wAt σ l t b) := fun b => Turned.set (Turned.set (Turned.refl _) rfl) (by simp [TObj.fits, TV.fits, TV.fitsL, hw.ht, bvL_fits])
  have hfl := flag_walk v.high
  have hf1 := flag01 v.high
  obtain ⟨b1, e1⟩ : ∃ b, b = bs ++ be 2 v.id := ⟨_, rfl⟩
  obtain ⟨b2, e2⟩ : ∃ b, b = b1 ++ be 2 v.host := ⟨_, rfl⟩
  obtain ⟨b3, e3⟩ : ∃ b, b = b2 ++ be 1 (16 * v.bag + 8 * (if v.high then 1 else 0) + v.subs) := ⟨_, rfl⟩
  obtain ⟨b4, e4⟩ : ∃ b, b = b3 ++ be 2 v.smax := ⟨_, rfl⟩
  obtain ⟨b5, e5⟩ : ∃ b, b = b4 ++ be 4 v.skew := ⟨_, rfl⟩
  obtain ⟨b6, e6⟩ : ∃ b, b = b5 ++ intsB v.to.l := ⟨_, rfl⟩
  have l1 : b1.length = bs.length + 2 := by rw [e1, List.length_append, be_len]
  have l2 : b2.length = bs.length + 4 := by rw [e2, List.length_append, be_len, l1]
  have l3 : b3.length = bs.length + 5 := by rw [e3, List.length_append, be_len, l2]
  have l4 : b4.length = bs.length + 7 := by rw [e4, List.length_append, be_len, l3]
  have l5 : b5.length = bs.length + 11 := by rw [e5, List.length_append, be_len, l4]
  have a1 := u16_to hw h1 (by omega) e1
  rw [hsame] at a1
  have a2 := u16_to hw h2 (by omega) e2
  have a3 := bits413_to hw h3 hf1 h4 (by omega) e3
  have a4 := u16_to hw h5 (by omega) e4
  have a5 := u32_to hw h6 (by omega) e5
  have a6 : ∀ ρ, TDoes Try.prog 87 [.ptr l 0, rowTV intC v.to, .func (.func 86) [.ptr l 0] []] (wAt σ l t b5 ++ ρ) (.tup []) (wAt σ l t b6 ++ ρ) := fun ρ => by
    have := layI_walk (hw.gl ρ b5) (hw.gt ρ b5) v.to h7 h8 (by omega)
    unfold wAt at this
    rw [show wSet σ l t b5 false = wAt σ l t b5 from rfl, wSet_app hw.hl hw.ht hw.ne] at this
    rw [e6]; exact this
  have he : bs ++ linkB v = b6 := by rw [e6, e5, e4, e3, e2, e1, linkB]; simp
  rw [he]
  generalize (if v.high = true then (1 : Int) else 0) = fl at hfl a3
  clear e1 e2 e3 e4 e5 e6 he
  refine does_of [] [] Try.func92 (by kernel_rfl) rfl (by kernel_rfl) fun X hR hN => ?_
  show Tw _ _ _ _ ([some _, some _] ++ List.replicate 34 none) _
  simp only [List.replicate, List.cons_append, List.nil_append]
  have FK := And.intro @hp (@hgp); have FD := zdum; have FL := zdum; have cA := @hfl; have cB := @linkBits_walk; have dA := @a1; have dB := @a2; have dC := @a3; have dD := @a4; have dE := @a5; have dF := @a6; have eA : Eord 3 [(0, 1), (2, 0), (3, 1), (4, 0), (5, 1), (7, 0), (8, 1), (1, 2), (6, 2), (9, 1), (10, 2)] := ⟨trivial⟩
  refine walk ?_
  (repeat' first | exact Lv.nil | apply Lv.cons) <;> (intros; clear eA dF dE dD dC dB dA cB cA FL FD FK)

theorem port_writes (v : Port) (h1 : F32 v.id) (h2 : F16 v.host) (h3 : F16 v.part) (h4 : 0 ≤ v.kind ∧ v.kind < 4) (h5 : 0 ≤ v.sub ∧ v.sub < 32) (h6 : F16 v.vl) (h7 : F16 v.udp) (h8 : F16 v.size) (h9 : F16 v.depth) (h10 : 0 ≤ v.fresh ∧ v.fresh ≤ 1099511627776) (hb : bs.length ≤ 9000000) :
    TDoes Try.prog 97 [.agg (portC v), .ptr p 0] σ (.tup []) (wAt σ l t (bs ++ portB v)) := by
  have hw := WB.of hl ht
  have hsame := wAt_same hl ht
  have hpl : p ≠ l := fun e => by subst e; rw [hl] at hp; cases hp
  have hpt : p ≠ t := fun e => by subst e; rw [ht] at hp; cases hp
  have hpr := lt_of_get hp
  have hgp : ∀ b ρ, (wAt σ l t b ++ ρ)[p]? = some (.cells [.ptr l 0]) := fun b ρ => by rw [List.getElem?_append_left (by rw [wAt_len]; exact hpr), wAt_p hpl hpt]; exact hp
  have hTu : ∀ b, Turned σ (wAt σ l t b) := fun b => Turned.set (Turned.set (Turned.refl _) rfl) (by simp [TObj.fits, TV.fits, TV.fitsL, hw.ht, bvL_fits])
  have hfl := flag_walk v.out
  have hf1 := flag01 v.out
  have hhi := fresh_hi h10
  have hlo := fresh_lo h10
  obtain ⟨b1, e1⟩ : ∃ b, b = bs ++ be 4 v.id := ⟨_, rfl⟩
  obtain ⟨b2, e2⟩ : ∃ b, b = b1 ++ be 2 v.host := ⟨_, rfl⟩
  obtain ⟨b3, e3⟩ : ∃ b, b = b2 ++ be 2 v.part := ⟨_, rfl⟩
  obtain ⟨b4, e4⟩ : ∃ b, b = b3 ++ be 1 (64 * v.kind + 32 * (if v.out then 1 else 0) + v.sub) := ⟨_, rfl⟩
  obtain ⟨b5, e5⟩ : ∃ b, b = b4 ++ be 2 v.vl := ⟨_, rfl⟩
  obtain ⟨b6, e6⟩ : ∃ b, b = b5 ++ be 2 v.udp := ⟨_, rfl⟩
  obtain ⟨b7, e7⟩ : ∃ b, b = b6 ++ be 2 v.size := ⟨_, rfl⟩
  obtain ⟨b8', e8⟩ : ∃ b, b = b7 ++ be 2 v.depth := ⟨_, rfl⟩
  obtain ⟨b9, e9⟩ : ∃ b, b = b8' ++ be 4 (v.fresh / 4294967296) := ⟨_, rfl⟩
  obtain ⟨b10, e10⟩ : ∃ b, b = b9 ++ be 4 (v.fresh % 4294967296) := ⟨_, rfl⟩
  have l1 : b1.length = bs.length + 4 := by rw [e1, List.length_append, be_len]
  have l2 : b2.length = bs.length + 6 := by rw [e2, List.length_append, be_len, l1]
  have l3 : b3.length = bs.length + 8 := by rw [e3, List.length_append, be_len, l2]
  have l4 : b4.length = bs.length + 9 := by rw [e4, List.length_append, be_len, l3]
  have l5 : b5.length = bs.length + 11 := by rw [e5, List.length_append, be_len, l4]
  have l6 : b6.length = bs.length + 13 := by rw [e6, List.length_append, be_len, l5]
  have l7 : b7.length = bs.length + 15 := by rw [e7, List.length_append, be_len, l6]
  have l8 : b8'.length = bs.length + 17 := by rw [e8, List.length_append, be_len, l7]
  have l9 : b9.length = bs.length + 21 := by rw [e9, List.length_append, be_len, l8]
  have a1 := u32_to hw h1 (by omega) e1
  rw [hsame] at a1
  have a2 := u16_to hw h2 (by omega) e2
  have a3 := u16_to hw h3 (by omega) e3
  have a4 := bits215_to hw h4 hf1 h5 (by omega) e4
  have a5 := u16_to hw h6 (by omega) e5
  have a6 := u16_to hw h7 (by omega) e6
  have a7 := u16_to hw h8 (by omega) e7
  have a8 := u16_to hw h9 (by omega) e8
  have a9 := u32_to hw (n := v.fresh / 4294967296) (by omega) (by omega) e9
  have a10 := u32_to hw (n := v.fresh % 4294967296) (by omega) (by omega) e10
  have he : bs ++ portB v = b10 := by rw [e10, e9, e8, e7, e6, e5, e4, e3, e2, e1, portB]; simp
  rw [he]
  generalize (if v.out = true then (1 : Int) else 0) = fl at hfl a4
  clear e1 e2 e3 e4 e5 e6 e7 e8 e9 e10 he
  refine does_of [] [] Try.func97 (by kernel_rfl) rfl (by kernel_rfl) fun X hR hN => ?_
  show Tw _ _ _ _ ([some _, some _] ++ List.replicate 54 none) _
  simp only [List.replicate, List.cons_append, List.nil_append]
  have FK := And.intro @hp (@hgp); have FD := zdum; have FL := zdum; have cA := @hfl; have cB := @portBits_walk; have dA := @a1; have dB := @a2; have dC := @a3; have dD := @a4; have eA : Eord 4 [(0, 1), (2, 0), (3, 1), (4, 0), (5, 1), (7, 0), (8, 1), (1, 2), (6, 2), (9, 1), (10, 2)] := ⟨trivial⟩
  refine walk ?_
  (repeat' first | exact Lv.nil | apply Lv.cons) <;> (intros; clear eA dD dC dB dA cB cA FL FD FK)
  refine T_open 4 ?_
  have FK := And.intro @hp (@hgp); have FD := zdum; have FL := zdum; have dA := @a5
  refine walk ?_
  (repeat' first | exact Lv.nil | apply Lv.cons) <;> (intros; clear dA FL FD FK)
  refine T_next ?_
  have FK := And.intro @hp (@hgp); have FD := zdum; have FL := zdum; have dA := @a6
  refine walk ?_
  (repeat' first | exact Lv.nil | apply Lv.cons) <;> (intros; clear dA FL FD FK)
  refine T_next ?_
  have FK := And.intro @hp (@hgp); have FD := zdum; have FL := zdum; have dA := @a7
  refine walk ?_
  (repeat' first | exact Lv.nil | apply Lv.cons) <;> (intros; clear dA FL FD FK)
  refine T_next ?_
  have FK := And.intro @hp (@hgp); have FD := zdum; have FL := zdum; have dA := @a8
  refine walk ?_
  (repeat' first | exact Lv.nil | apply Lv.cons) <;> (intros; clear dA FL FD FK)
  refine T_next ?_
  have FK := And.intro @hp (And.intro @hgp (And.intro @hhi (@hlo))); have FD := zdum; have FL := zdum; have dA := @a9; have dB := @a10
  refine walk ?_
  (repeat' first | exact Lv.nil | apply Lv.cons) <;> (intros; clear dB dA FL FD FK)
end

def WinF (w : Win) : Prop := F16 w.part ∧ F32 w.begin_ ∧ F32 w.long
def LinkF (v : Link) : Prop := F16 v.id ∧ F16 v.host ∧ (0 ≤ v.bag ∧ v.bag < 16) ∧ (0 ≤ v.subs ∧ v.subs < 8) ∧ F16 v.smax ∧ F32 v.skew ∧ v.to.l.length ≤ 900 ∧ ∀ x ∈ v.to.l, F16 x
def PortF (v : Port) : Prop := F32 v.id ∧ F16 v.host ∧ F16 v.part ∧ (0 ≤ v.kind ∧ v.kind < 4) ∧ (0 ≤ v.sub ∧ v.sub < 32) ∧ F16 v.vl ∧ F16 v.udp ∧ F16 v.size ∧ F16 v.depth ∧ (0 ≤ v.fresh ∧ v.fresh ≤ 1099511627776)
theorem flat_le {α : Type} {f : α → List UInt8} {k : Nat} : ∀ {l : List α} {n : Nat}, (∀ x ∈ l, (f x).length ≤ k) → l.length ≤ n → (l.flatMap f).length ≤ n * k
  | [], _, _, _ => by simp
  | x :: l, 0, _, h => by simp at h
  | x :: l, n + 1, hf, h => by
    have h1 := hf x (by simp)
    have h2 := flat_le (f := f) (k := k) (l := l) (n := n) (fun y hy => hf y (by simp [hy])) (by simpa using h)
    rw [List.flatMap_cons, List.length_append, Nat.add_mul]; omega
theorem winB_len (w : Win) : (winB w).length = 10 := by simp [winB, be_len]
theorem portB_len (p : Port) : (portB p).length = 25 := by simp [portB, be_len]
theorem winB_le {w : Win} (_ : WinF w) : (winB w).length ≤ 10 := by rw [winB_len]; omega
theorem portB_le {w : Port} (_ : PortF w) : (portB w).length ≤ 30 := by rw [portB_len]; omega
theorem intsB_len (l : List Int) : (intsB l).length = 2 + l.length * 2 := by rw [intsB, List.length_append, be_len, flat_len2 (fun n => be_len 2 n)]
theorem linkB_len (v : Link) : (linkB v).length = 13 + v.to.l.length * 2 := by
  simp only [linkB, List.length_append, be_len, intsB_len]; omega
theorem linkB_le {v : Link} (h : LinkF v) : (linkB v).length ≤ 2000 := by rw [linkB_len]; have := h.2.2.2.2.2.2.1; omega

section
variable {σ : TS} {l t p : Nat} {bs : List UInt8} (hl : σ[l]? = some (.cells (wC t bs false))) (ht : σ[t]? = some (.right bs.length 1)) (hp : σ[p]? = some (.cells [.ptr l 0]))
include hl ht hp
theorem win_walk' (w : Win) (h : WinF w) (hb : bs.length ≤ 8000000) : TDoes Try.prog 90 [.agg (winC w), .ptr p 0] σ (.tup []) (wAt σ l t (bs ++ winB w)) :=
  win_walk hl ht hp w h.1 h.2.1 h.2.2 (by omega)
theorem link_writes' (v : Link) (h : LinkF v) (hb : bs.length ≤ 8000000) : TDoes Try.prog 92 [.agg (linkC v), .ptr p 0] σ (.tup []) (wAt σ l t (bs ++ linkB v)) := by
  obtain ⟨h1, h2, h3, h4, h5, h6, h7, h8⟩ := h
  exact link_writes hl ht hp v h1 h2 h3 h4 h5 h6 (by omega) h8 (by omega)
theorem port_writes' (v : Port) (h : PortF v) (hb : bs.length ≤ 8000000) : TDoes Try.prog 97 [.agg (portC v), .ptr p 0] σ (.tup []) (wAt σ l t (bs ++ portB v)) := by
  obtain ⟨h1, h2, h3, h4, h5, h6, h7, h8, h9, h10⟩ := h
  exact port_writes hl ht hp v h1 h2 h3 h4 h5 h6 h7 h8 h9 h10 (by omega)
end
end Go.Proofs.Ytgkcackpffimmaa
