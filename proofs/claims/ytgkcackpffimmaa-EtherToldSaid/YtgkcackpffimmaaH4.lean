/- strings.Repeat, out of the library's own contract; the sealed texts as lists of bytes. (The layings: as the shelf's lay-shelf and lay-plain wrote them for this dump.) -/
import Derived.Shelf.Strings.Repeat
import Derived.Test.YtgkcackpffimmaaC3
import Derived.Test.YtgkcackpffimmaaH3
set_option linter.unusedVariables false
set_option linter.unusedSimpArgs false
set_option maxRecDepth 10000
set_option maxHeartbeats 2000000
namespace Go.Proofs.Ytgkcackpffimmaa
open Go.Shelf
def lays105_ren : Go.Shelf.Ren := ⟨fun | 105 => 108 | 212 => 153 | 99 => 154 | 165 => 155 | 166 => 156 | 170 => 157 | 169 => 158 | 263 => 180 | 264 => 181 | 206 => 182 | 240 => 183 | 241 => 184 | 276 => 191 | 277 => 192 | n => n, fun | 9 => 9 | 3 => 3 | 4 => 4 | 20 => 20 | 0 => 0 | 46 => 124 | 109 => 199 | 5 => 5 | 72 => 204 | 76 => 207 | 51 => 194 | 146 => 231 | 53 => 192 | 148 => 233 | 70 => 202 | 37 => 55 | 75 => 206 | 127 => 235 | 164 => 244 | 80 => 209 | n => n, fun | n => n⟩
theorem lays105 : Go.Proofs.Lays.n105 Try.prog lays105_ren := {
  mixed := by kernel_rfl
  f99 := Try.func154.trans (congrArg some (by kernel_rfl))
  f105 := Try.func108.trans (congrArg some (by kernel_rfl))
  f165 := Try.func155.trans (congrArg some (by kernel_rfl))
  f166 := Try.func156.trans (congrArg some (by kernel_rfl))
  f169 := Try.func158.trans (congrArg some (by kernel_rfl))
  f170 := Try.func157.trans (congrArg some (by kernel_rfl))
  f206 := Try.func182.trans (congrArg some (by kernel_rfl))
  f212 := Try.func153.trans (congrArg some (by kernel_rfl))
  f240 := Try.func183.trans (congrArg some (by kernel_rfl))
  f241 := Try.func184.trans (congrArg some (by kernel_rfl))
  f263 := Try.func180.trans (congrArg some (by kernel_rfl))
  f264 := Try.func181.trans (congrArg some (by kernel_rfl))
  f276 := Try.func191.trans (congrArg some (by kernel_rfl))
  f277 := Try.func192.trans (congrArg some (by kernel_rfl))
  t0 := Try.underlying0
  a0 := Try.isAgg0
  z0 := Try.sizeOf0
  v0 := Try.zeroValue0
  t3 := Try.underlying3
  a3 := Try.isAgg3
  z3 := Try.sizeOf3
  v3 := Try.zeroValue3
  t4 := Try.underlying4
  a4 := Try.isAgg4
  z4 := Try.sizeOf4
  v4 := Try.zeroValue4
  t5 := Try.underlying5
  a5 := Try.isAgg5
  z5 := Try.sizeOf5
  v5 := Try.zeroValue5
  t9 := Try.underlying9
  a9 := Try.isAgg9
  z9 := Try.sizeOf9
  v9 := Try.zeroValue9
  t20 := Try.underlying20
  a20 := Try.isAgg20
  z20 := Try.sizeOf20
  v20 := Try.zeroValue20
  t37 := Try.underlying55
  a37 := Try.isAgg55
  z37 := Try.sizeOf55
  v37 := Try.zeroValue55
  t46 := Try.underlying124
  a46 := Try.isAgg124
  z46 := Try.sizeOf124
  v46 := Try.zeroValue124
  t51 := Try.underlying194
  a51 := Try.isAgg194
  z51 := Try.sizeOf194
  v51 := Try.zeroValue194
  t53 := Try.underlying192
  a53 := Try.isAgg192
  z53 := Try.sizeOf192
  v53 := Try.zeroValue192
  t70 := Try.underlying202
  a70 := Try.isAgg202
  z70 := Try.sizeOf202
  v70 := Try.zeroValue202
  t72 := Try.underlying204
  a72 := Try.isAgg204
  z72 := Try.sizeOf204
  v72 := Try.zeroValue204
  t75 := Try.underlying206
  a75 := Try.isAgg206
  z75 := Try.sizeOf206
  v75 := Try.zeroValue206
  t76 := Try.underlying207
  a76 := Try.isAgg207
  z76 := Try.sizeOf207
  v76 := Try.zeroValue207
  t109 := Try.underlying199
  a109 := Try.isAgg199
  z109 := Try.sizeOf199
  v109 := Try.zeroValue199
  t127 := Try.underlying235
  a127 := Try.isAgg235
  z127 := Try.sizeOf235
  v127 := Try.zeroValue235
  t146 := Try.underlying231
  a146 := Try.isAgg231
  z146 := Try.sizeOf231
  v146 := Try.zeroValue231
  t148 := Try.underlying233
  a148 := Try.isAgg233
  z148 := Try.sizeOf233
  v148 := Try.zeroValue233
  t164 := Try.underlying244
  a164 := Try.isAgg244
  z164 := Try.sizeOf244
  v164 := Try.zeroValue244 }
theorem Builder_Extra_105 : Builder.Extra Try.prog lays105_ren := {
  sizeBuilder := by kernel_rfl
  liesBuilder := by kernel_rfl
  t5 := Try.underlying5
  a5 := Try.isAgg5
  z5 := Try.sizeOf5
  v5 := Try.zeroValue5
  infoByte := by kernel_rfl
  cellsByte := by kernel_rfl
  sizeByte := by kernel_rfl
  neB5 := by decide }

open Go.TM Go.RowKit
/-- A call whose contract is one of worlds that grow. -/
theorem TPure.ofBelow {P : Program} {f : FuncId} {args : List TV} {σ : TS} {v : TV} (hE : Go.TM.Enters P f) (h : ∀ (g : G) (w : World) (va : Array Value), WR g σ w → VRL g σ args va.toList → Calls P f va w fun e w' => (∃ val, e = .returned val ∧ VR g σ v val) ∧ Below w.heap.size w w') : TPure P f args σ v :=
  ⟨hE, fun g w va hw hv => (h g w va hw hv).mono fun e w' hx => by
    obtain ⟨⟨val, rfl, hval⟩, hb⟩ := hx
    exact ⟨val, v, σ, g, rfl, Ext.refl _ _, hw.grow hb, hval, rfl, rfl⟩⟩

theorem repeatL_one (b : UInt8) (n : Nat) : Lib.repeatL [b] n = List.replicate n b := by
  induction n with
  | zero => rfl
  | succ n ih => rw [Lib.repeatL, ih, List.replicate_succ]; rfl

theorem repeat_walk (b : UInt8) (n : Nat) (σ : TS) (hn : n ≤ 1000000) : TPure Try.prog 108 [.str (B [b]), .int .i64 n] σ (.str (B (List.replicate n b))) := by
  refine TPure.ofBelow ⟨_, Try.func108, rfl, by kernel_rfl⟩ fun g w va hw hv => ?_
  simp only [VRL, VR] at hv
  obtain ⟨v1, r1, e1, rfl, v2, r2, rfl, rfl, rfl⟩ := hv
  obtain rfl : va = #[.string (B [b]), .int .i64 n] := by
    apply Array.toList_inj.1
    exact e1
  refine (Any.strings_Repeat lays105 Builder_Extra_105 (B [b]) n w (by omega) (by rw [B_size]; simp; omega)).mono fun e w' hx => ?_
  obtain ⟨rfl, hb⟩ := hx
  refine ⟨⟨_, rfl, ?_⟩, hb⟩
  simp only [VR]
  rw [repeatL_one]

/- sealed texts -/
theorem sealB_B (l : List UInt8) : sealB (B l) = B (sealL l) := rfl
theorem sealL_len (l : List UInt8) : (sealL l).length = l.length + 4 := by simp [sealL]
def openL (s : List UInt8) : List UInt8 × Int := if s.length < 4 then ([], 10) else if sealL (s.take (s.length - 4)) = s then (s.take (s.length - 4), 0) else ([], 12)
theorem openB_B (s : List UInt8) : openB (B s) = (B (openL s).1, (openL s).2) := by
  unfold openB openL
  rw [B_size, B_extract, List.drop_zero, sealB_B]
  simp only [B_inj]
  split
  · rfl
  · split <;> rfl

theorem seal_pure (l : List UInt8) (σ : TS) (h : l.length ≤ 100000) : TPure Try.prog 100 [.str (B l)] σ (.str (B (sealL l))) :=
  TCalls.pure (seal_walk (B l) σ (by rw [B_size]; exact h)) fun tv s q => by
    obtain ⟨rfl, hg⟩ := q
    exact ⟨hg, rfl, rfl, rfl⟩
theorem open_pure (l : List UInt8) (σ : TS) (h : l.length ≤ 100000) : TPure Try.prog 112 [.str (B l)] σ (.tup [.str (B (openL l).1), .int .i64 (openL l).2]) :=
  TCalls.pure (open_walk (B l) σ (by rw [B_size]; exact h)) fun tv s q => by
    obtain ⟨rfl, hg⟩ := q
    rw [openB_B]
    exact ⟨hg, rfl, rfl, rfl⟩
theorem refseal_pure (l : List UInt8) (σ : TS) (h : l.length ≤ 100000) : TPure Try.prog 105 [.str (B l)] σ (.str (B (sealL l))) := refseal_walk (B l) σ (by rw [B_size]; exact h)
theorem refopen_pure (l : List UInt8) (σ : TS) (h : l.length ≤ 100000) : TPure Try.prog 119 [.str (B l)] σ (.tup [.str (B (openL l).1), .int .i64 (openL l).2]) := by
  have := refopen_walk (B l) σ (by rw [B_size]; exact h)
  rw [openB_B] at this
  exact this
end Go.Proofs.Ytgkcackpffimmaa
