/- strings.Repeat, out of the library's own contract; the sealed texts as lists of bytes. (The layings: as the shelf's lay-shelf and lay-plain wrote them for this dump.) -/
import Derived.Shelf.Strings.Repeat
import Derived.Test.YtbhhmnfjjnnkiaaGreatD2
import Derived.Test.YtbhhmnfjjnnkiaaGreatT50
set_option linter.unusedVariables false
set_option linter.unusedSimpArgs false
set_option maxRecDepth 10000
set_option maxHeartbeats 2000000
namespace Go.Proofs.YtbhhmnfjjnnkiaaGreat
open Go.Shelf
def lays105_ren : Go.Shelf.Ren := ⟨fun | 105 => 139 | 212 => 191 | 99 => 192 | 165 => 193 | 166 => 194 | 170 => 195 | 169 => 196 | 263 => 211 | 264 => 212 | 206 => 213 | 240 => 214 | 241 => 215 | 276 => 219 | 277 => 220 | n => n, fun | 9 => 9 | 3 => 3 | 4 => 4 | 20 => 20 | 0 => 0 | 46 => 182 | 109 => 322 | 5 => 5 | 72 => 327 | 76 => 330 | 51 => 313 | 146 => 351 | 53 => 315 | 148 => 353 | 70 => 325 | 37 => 220 | 75 => 329 | 127 => 355 | 164 => 363 | 80 => 303 | n => n, fun | n => n⟩
theorem lays105 : Go.Proofs.Lays.n105 Tryz.prog lays105_ren := {
  mixed := by kernel_rfl
  f99 := Tryz.func192.trans (congrArg some (by kernel_rfl))
  f105 := Tryz.func139.trans (congrArg some (by kernel_rfl))
  f165 := Tryz.func193.trans (congrArg some (by kernel_rfl))
  f166 := Tryz.func194.trans (congrArg some (by kernel_rfl))
  f169 := Tryz.func196.trans (congrArg some (by kernel_rfl))
  f170 := Tryz.func195.trans (congrArg some (by kernel_rfl))
  f206 := Tryz.func213.trans (congrArg some (by kernel_rfl))
  f212 := Tryz.func191.trans (congrArg some (by kernel_rfl))
  f240 := Tryz.func214.trans (congrArg some (by kernel_rfl))
  f241 := Tryz.func215.trans (congrArg some (by kernel_rfl))
  f263 := Tryz.func211.trans (congrArg some (by kernel_rfl))
  f264 := Tryz.func212.trans (congrArg some (by kernel_rfl))
  f276 := Tryz.func219.trans (congrArg some (by kernel_rfl))
  f277 := Tryz.func220.trans (congrArg some (by kernel_rfl))
  t0 := Tryz.underlying0
  a0 := Tryz.isAgg0
  z0 := Tryz.sizeOf0
  v0 := Tryz.zeroValue0
  t3 := Tryz.underlying3
  a3 := Tryz.isAgg3
  z3 := Tryz.sizeOf3
  v3 := Tryz.zeroValue3
  t4 := Tryz.underlying4
  a4 := Tryz.isAgg4
  z4 := Tryz.sizeOf4
  v4 := Tryz.zeroValue4
  t5 := Tryz.underlying5
  a5 := Tryz.isAgg5
  z5 := Tryz.sizeOf5
  v5 := Tryz.zeroValue5
  t9 := Tryz.underlying9
  a9 := Tryz.isAgg9
  z9 := Tryz.sizeOf9
  v9 := Tryz.zeroValue9
  t20 := Tryz.underlying20
  a20 := Tryz.isAgg20
  z20 := Tryz.sizeOf20
  v20 := Tryz.zeroValue20
  t37 := Tryz.underlying220
  a37 := Tryz.isAgg220
  z37 := Tryz.sizeOf220
  v37 := Tryz.zeroValue220
  t46 := Tryz.underlying182
  a46 := Tryz.isAgg182
  z46 := Tryz.sizeOf182
  v46 := Tryz.zeroValue182
  t51 := Tryz.underlying313
  a51 := Tryz.isAgg313
  z51 := Tryz.sizeOf313
  v51 := Tryz.zeroValue313
  t53 := Tryz.underlying315
  a53 := Tryz.isAgg315
  z53 := Tryz.sizeOf315
  v53 := Tryz.zeroValue315
  t70 := Tryz.underlying325
  a70 := Tryz.isAgg325
  z70 := Tryz.sizeOf325
  v70 := Tryz.zeroValue325
  t72 := Tryz.underlying327
  a72 := Tryz.isAgg327
  z72 := Tryz.sizeOf327
  v72 := Tryz.zeroValue327
  t75 := Tryz.underlying329
  a75 := Tryz.isAgg329
  z75 := Tryz.sizeOf329
  v75 := Tryz.zeroValue329
  t76 := Tryz.underlying330
  a76 := Tryz.isAgg330
  z76 := Tryz.sizeOf330
  v76 := Tryz.zeroValue330
  t109 := Tryz.underlying322
  a109 := Tryz.isAgg322
  z109 := Tryz.sizeOf322
  v109 := Tryz.zeroValue322
  t127 := Tryz.underlying355
  a127 := Tryz.isAgg355
  z127 := Tryz.sizeOf355
  v127 := Tryz.zeroValue355
  t146 := Tryz.underlying351
  a146 := Tryz.isAgg351
  z146 := Tryz.sizeOf351
  v146 := Tryz.zeroValue351
  t148 := Tryz.underlying353
  a148 := Tryz.isAgg353
  z148 := Tryz.sizeOf353
  v148 := Tryz.zeroValue353
  t164 := Tryz.underlying363
  a164 := Tryz.isAgg363
  z164 := Tryz.sizeOf363
  v164 := Tryz.zeroValue363 }
theorem Builder_Extra_105 : Builder.Extra Tryz.prog lays105_ren := {
  sizeBuilder := by kernel_rfl
  liesBuilder := by kernel_rfl
  t5 := Tryz.underlying5
  a5 := Tryz.isAgg5
  z5 := Tryz.sizeOf5
  v5 := Tryz.zeroValue5
  infoByte := by kernel_rfl
  cellsByte := by kernel_rfl
  sizeByte := by kernel_rfl
  neB5 := by decide }

open Go.TM Go.RowKit
/-- A call whose contract is one of worlds that grow. -/
theorem TPure.ofBelow {P : Program} {f : FuncId} {args : List TV} {σ : TS} {v : TV} (hE : Go.TM.Enters P f) (h : ∀ (g : G) (w : World) (va : Array Value), WR g σ w → VRL g σ args va.toList → Calls P f va w fun e w' => (∃ val, e = .returned val ∧ VR g σ v val) ∧ Below w.heap.size w w') : TPure P f args σ v :=
  ⟨hE, fun g w va hw hv => (h g w va hw hv).mono fun e w' hx => by
    obtain ⟨⟨val, rfl, hval⟩, hb⟩ := hx
    exact ⟨val, v, σ, g, rfl, Ext.refl _ _, hw.grow hb, hval, rfl, rfl⟩⟩

theorem repeatL_one (b : UInt8) (n : Nat) : Lib.repeatL [b] n = List.replicate n b := by
  induction n with
  | zero => rfl
  | succ n ih => rw [Lib.repeatL, ih, List.replicate_succ]; rfl

theorem repeat_walk (b : UInt8) (n : Nat) (σ : TS) (hn : n ≤ 1000000) : TPure Tryz.prog 139 [.str (B [b]), .int .i64 n] σ (.str (B (List.replicate n b))) := by
  refine TPure.ofBelow ⟨_, Tryz.func139, rfl, by kernel_rfl⟩ fun g w va hw hv => ?_
  simp only [VRL, VR] at hv
  obtain ⟨v1, r1, e1, rfl, v2, r2, rfl, rfl, rfl⟩ := hv
  obtain rfl : va = #[.string (B [b]), .int .i64 n] := by
    apply Array.toList_inj.1
    exact e1
  refine (Any.strings_Repeat lays105 Builder_Extra_105 (B [b]) n w (by omega) (by rw [B_size]; simp; omega)).mono fun e w' hx => ?_
  obtain ⟨rfl, hb⟩ := hx
  refine ⟨⟨_, rfl, ?_⟩, hb⟩
  simp only [VR]
  rw [repeatL_one]

end Go.Proofs.YtbhhmnfjjnnkiaaGreat
