/- strings.Repeat, out of the library's own contract; the sealed texts as lists of bytes. (The layings: as the shelf's lay-shelf and lay-plain wrote them for this dump.) -/
import Derived.Shelf.Strings.Repeat
import Derived.Test.YtkmcbaihemaoeaaGreatD2
import Derived.Test.YtkmcbaihemaoeaaGreatT50
set_option linter.unusedVariables false
set_option linter.unusedSimpArgs false
set_option maxRecDepth 10000
set_option maxHeartbeats 2000000
namespace Go.Proofs.YtkmcbaihemaoeaaGreat
open Go.Shelf
def lays105_ren : Go.Shelf.Ren := ⟨fun | 105 => 183 | 212 => 265 | 99 => 266 | 165 => 267 | 166 => 268 | 170 => 269 | 169 => 270 | 263 => 327 | 264 => 328 | 206 => 329 | 240 => 330 | 241 => 331 | 276 => 356 | 277 => 357 | n => n, fun | 9 => 9 | 3 => 3 | 4 => 4 | 20 => 20 | 0 => 0 | 46 => 240 | 109 => 457 | 5 => 5 | 72 => 462 | 76 => 465 | 51 => 392 | 146 => 499 | 53 => 433 | 148 => 501 | 70 => 460 | 37 => 301 | 75 => 464 | 127 => 503 | 164 => 521 | 80 => 313 | n => n, fun | n => n⟩
theorem lays105 : Go.Proofs.Lays.n105 Tryz.prog lays105_ren := {
  mixed := by kernel_rfl
  f99 := Tryz.func266.trans (congrArg some (by kernel_rfl))
  f105 := Tryz.func183.trans (congrArg some (by kernel_rfl))
  f165 := Tryz.func267.trans (congrArg some (by kernel_rfl))
  f166 := Tryz.func268.trans (congrArg some (by kernel_rfl))
  f169 := Tryz.func270.trans (congrArg some (by kernel_rfl))
  f170 := Tryz.func269.trans (congrArg some (by kernel_rfl))
  f206 := Tryz.func329.trans (congrArg some (by kernel_rfl))
  f212 := Tryz.func265.trans (congrArg some (by kernel_rfl))
  f240 := Tryz.func330.trans (congrArg some (by kernel_rfl))
  f241 := Tryz.func331.trans (congrArg some (by kernel_rfl))
  f263 := Tryz.func327.trans (congrArg some (by kernel_rfl))
  f264 := Tryz.func328.trans (congrArg some (by kernel_rfl))
  f276 := Tryz.func356.trans (congrArg some (by kernel_rfl))
  f277 := Tryz.func357.trans (congrArg some (by kernel_rfl))
  t0 := Tryz.underlying0
  a0 := Tryz.isAgg0
  z0 := Tryz.sizeOf0
  v0 := Tryz.zeroValue0
  t3 := Tryz.underlying3
  a3 := Tryz.isAgg3
  z3 := Tryz.sizeOf3
  v3 := Tryz.zeroValue3
  t4 := Tryz.underlying4
  a4 := Tryz.isAgg4
  z4 := Tryz.sizeOf4
  v4 := Tryz.zeroValue4
  t5 := Tryz.underlying5
  a5 := Tryz.isAgg5
  z5 := Tryz.sizeOf5
  v5 := Tryz.zeroValue5
  t9 := Tryz.underlying9
  a9 := Tryz.isAgg9
  z9 := Tryz.sizeOf9
  v9 := Tryz.zeroValue9
  t20 := Tryz.underlying20
  a20 := Tryz.isAgg20
  z20 := Tryz.sizeOf20
  v20 := Tryz.zeroValue20
  t37 := Tryz.underlying301
  a37 := Tryz.isAgg301
  z37 := Tryz.sizeOf301
  v37 := Tryz.zeroValue301
  t46 := Tryz.underlying240
  a46 := Tryz.isAgg240
  z46 := Tryz.sizeOf240
  v46 := Tryz.zeroValue240
  t51 := Tryz.underlying392
  a51 := Tryz.isAgg392
  z51 := Tryz.sizeOf392
  v51 := Tryz.zeroValue392
  t53 := Tryz.underlying433
  a53 := Tryz.isAgg433
  z53 := Tryz.sizeOf433
  v53 := Tryz.zeroValue433
  t70 := Tryz.underlying460
  a70 := Tryz.isAgg460
  z70 := Tryz.sizeOf460
  v70 := Tryz.zeroValue460
  t72 := Tryz.underlying462
  a72 := Tryz.isAgg462
  z72 := Tryz.sizeOf462
  v72 := Tryz.zeroValue462
  t75 := Tryz.underlying464
  a75 := Tryz.isAgg464
  z75 := Tryz.sizeOf464
  v75 := Tryz.zeroValue464
  t76 := Tryz.underlying465
  a76 := Tryz.isAgg465
  z76 := Tryz.sizeOf465
  v76 := Tryz.zeroValue465
  t109 := Tryz.underlying457
  a109 := Tryz.isAgg457
  z109 := Tryz.sizeOf457
  v109 := Tryz.zeroValue457
  t127 := Tryz.underlying503
  a127 := Tryz.isAgg503
  z127 := Tryz.sizeOf503
  v127 := Tryz.zeroValue503
  t146 := Tryz.underlying499
  a146 := Tryz.isAgg499
  z146 := Tryz.sizeOf499
  v146 := Tryz.zeroValue499
  t148 := Tryz.underlying501
  a148 := Tryz.isAgg501
  z148 := Tryz.sizeOf501
  v148 := Tryz.zeroValue501
  t164 := Tryz.underlying521
  a164 := Tryz.isAgg521
  z164 := Tryz.sizeOf521
  v164 := Tryz.zeroValue521 }
theorem Builder_Extra_105 : Builder.Extra Tryz.prog lays105_ren := {
  sizeBuilder := by kernel_rfl
  liesBuilder := by kernel_rfl
  t5 := Tryz.underlying5
  a5 := Tryz.isAgg5
  z5 := Tryz.sizeOf5
  v5 := Tryz.zeroValue5
  infoByte := by kernel_rfl
  cellsByte := by kernel_rfl
  sizeByte := by kernel_rfl
  neB5 := by decide }

open Go.TM Go.RowKit
/-- A call whose contract is one of worlds that grow. -/
theorem TPure.ofBelow {P : Program} {f : FuncId} {args : List TV} {σ : TS} {v : TV} (hE : Go.TM.Enters P f) (h : ∀ (g : G) (w : World) (va : Array Value), WR g σ w → VRL g σ args va.toList → Calls P f va w fun e w' => (∃ val, e = .returned val ∧ VR g σ v val) ∧ Below w.heap.size w w') : TPure P f args σ v :=
  ⟨hE, fun g w va hw hv => (h g w va hw hv).mono fun e w' hx => by
    obtain ⟨⟨val, rfl, hval⟩, hb⟩ := hx
    exact ⟨val, v, σ, g, rfl, Ext.refl _ _, hw.grow hb, hval, rfl, rfl⟩⟩

theorem repeatL_one (b : UInt8) (n : Nat) : Lib.repeatL [b] n = List.replicate n b := by
  induction n with
  | zero => rfl
  | succ n ih => rw [Lib.repeatL, ih, List.replicate_succ]; rfl

theorem repeat_walk (b : UInt8) (n : Nat) (σ : TS) (hn : n ≤ 1000000) : TPure Tryz.prog 183 [.str (B [b]), .int .i64 n] σ (.str (B (List.replicate n b))) := by
  refine TPure.ofBelow ⟨_, Tryz.func183, rfl, by kernel_rfl⟩ fun g w va hw hv => ?_
  simp only [VRL, VR] at hv
  obtain ⟨v1, r1, e1, rfl, v2, r2, rfl, rfl, rfl⟩ := hv
  obtain rfl : va = #[.string (B [b]), .int .i64 n] := by
    apply Array.toList_inj.1
    exact e1
  refine (Any.strings_Repeat lays105 Builder_Extra_105 (B [b]) n w (by omega) (by rw [B_size]; simp; omega)).mono fun e w' hx => ?_
  obtain ⟨rfl, hb⟩ := hx
  refine ⟨⟨_, rfl, ?_⟩, hb⟩
  simp only [VR]
  rw [repeatL_one]

end Go.Proofs.YtkmcbaihemaoeaaGreat
