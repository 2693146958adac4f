/- slices.Sort and slices.Compact of numbers, out of the library's own contracts. (The layings: as the shelf's lay-shelf and lay-plain wrote them for this dump.) -/
import Derived.Shelf.Sort.Plain
import Derived.Shelf.Slices.CompactI
import Derived.Shelf.Slices.In.SortNone
import Derived.Test.YtbhhmnfjjnnkiaaGreatM0
import Derived.Test.YtbhhmnfjjnnkiaaGreatD2
import Derived.Test.YtbhhmnfjjnnkiaaGreatT42
set_option linter.unusedVariables false
set_option linter.unusedSimpArgs false
set_option maxRecDepth 10000
set_option maxHeartbeats 2000000
namespace Go.Proofs.YtbhhmnfjjnnkiaaGreat
open Go.Shelf
def lays189_ren : Go.Shelf.Ren := ⟨fun | 189 => 100 | 125 => 126 | 257 => 125 | 128 => 181 | 129 => 182 | 294 => 172 | 295 => 173 | 296 => 174 | 297 => 175 | 298 => 176 | 299 => 177 | 216 => 178 | 300 => 179 | 301 => 180 | 328 => 203 | 329 => 204 | 330 => 205 | 331 => 206 | 332 => 207 | 215 => 208 | 343 => 218 | n => n, fun | 28 => 22 | 3 => 3 | 46 => 182 | 0 => 0 | 51 => 313 | 53 => 315 | 4 => 4 | 183 => 306 | 182 => 305 | 131 => 152 | 5 => 5 | 9 => 9 | 218 => 344 | 222 => 348 | 228 => 360 | 229 => 361 | n => n, fun | n => n⟩
theorem lays189 : Go.Proofs.Lays.n189 Tryz.prog lays189_ren := {
  mixed := by kernel_rfl
  f125 := Tryz.func126.trans (congrArg some (by kernel_rfl))
  f128 := Tryz.func181.trans (congrArg some (by kernel_rfl))
  f129 := Tryz.func182.trans (congrArg some (by kernel_rfl))
  f189 := Tryz.func100.trans (congrArg some (by kernel_rfl))
  f215 := Tryz.func208.trans (congrArg some (by kernel_rfl))
  f216 := Tryz.func178.trans (congrArg some (by kernel_rfl))
  f257 := Tryz.func125.trans (congrArg some (by kernel_rfl))
  f294 := Tryz.func172.trans (congrArg some (by kernel_rfl))
  f295 := Tryz.func173.trans (congrArg some (by kernel_rfl))
  f296 := Tryz.func174.trans (congrArg some (by kernel_rfl))
  f297 := Tryz.func175.trans (congrArg some (by kernel_rfl))
  f298 := Tryz.func176.trans (congrArg some (by kernel_rfl))
  f299 := Tryz.func177.trans (congrArg some (by kernel_rfl))
  f300 := Tryz.func179.trans (congrArg some (by kernel_rfl))
  f301 := Tryz.func180.trans (congrArg some (by kernel_rfl))
  f328 := Tryz.func203.trans (congrArg some (by kernel_rfl))
  f329 := Tryz.func204.trans (congrArg some (by kernel_rfl))
  f330 := Tryz.func205.trans (congrArg some (by kernel_rfl))
  f331 := Tryz.func206.trans (congrArg some (by kernel_rfl))
  f332 := Tryz.func207.trans (congrArg some (by kernel_rfl))
  f343 := Tryz.func218.trans (congrArg some (by kernel_rfl))
  t0 := Tryz.underlying0
  a0 := Tryz.isAgg0
  z0 := Tryz.sizeOf0
  v0 := Tryz.zeroValue0
  t3 := Tryz.underlying3
  a3 := Tryz.isAgg3
  z3 := Tryz.sizeOf3
  v3 := Tryz.zeroValue3
  t4 := Tryz.underlying4
  a4 := Tryz.isAgg4
  z4 := Tryz.sizeOf4
  v4 := Tryz.zeroValue4
  t5 := Tryz.underlying5
  a5 := Tryz.isAgg5
  z5 := Tryz.sizeOf5
  v5 := Tryz.zeroValue5
  t9 := Tryz.underlying9
  a9 := Tryz.isAgg9
  z9 := Tryz.sizeOf9
  v9 := Tryz.zeroValue9
  t28 := Tryz.underlying22
  a28 := Tryz.isAgg22
  z28 := Tryz.sizeOf22
  v28 := Tryz.zeroValue22
  t46 := Tryz.underlying182
  a46 := Tryz.isAgg182
  z46 := Tryz.sizeOf182
  v46 := Tryz.zeroValue182
  t51 := Tryz.underlying313
  a51 := Tryz.isAgg313
  z51 := Tryz.sizeOf313
  v51 := Tryz.zeroValue313
  t53 := Tryz.underlying315
  a53 := Tryz.isAgg315
  z53 := Tryz.sizeOf315
  v53 := Tryz.zeroValue315
  t131 := Tryz.underlying152
  a131 := Tryz.isAgg152
  z131 := Tryz.sizeOf152
  v131 := Tryz.zeroValue152
  t182 := Tryz.underlying305
  a182 := Tryz.isAgg305
  z182 := Tryz.sizeOf305
  v182 := Tryz.zeroValue305
  t183 := Tryz.underlying306
  a183 := Tryz.isAgg306
  z183 := Tryz.sizeOf306
  v183 := Tryz.zeroValue306
  t218 := Tryz.underlying344
  a218 := Tryz.isAgg344
  z218 := Tryz.sizeOf344
  v218 := Tryz.zeroValue344
  t222 := Tryz.underlying348
  a222 := Tryz.isAgg348
  z222 := Tryz.sizeOf348
  v222 := Tryz.zeroValue348
  t228 := Tryz.underlying360
  a228 := Tryz.isAgg360
  z228 := Tryz.sizeOf360
  v228 := Tryz.zeroValue360
  t229 := Tryz.underlying361
  a229 := Tryz.isAgg361
  z229 := Tryz.sizeOf361
  v229 := Tryz.zeroValue361 }
def laysNm220_ren : Go.Shelf.Ren := ⟨fun | 20 => 101 | n => n, fun | 22 => 22 | 3 => 3 | 4 => 4 | 0 => 0 | n => n, fun | n => n⟩
theorem laysNm220 : Go.Proofs.Lays2.n20 Tryz.prog laysNm220_ren := {
  mixed := by kernel_rfl
  f20 := Tryz.func101.trans (congrArg some (by kernel_rfl))
  t0 := Tryz.underlying0
  a0 := Tryz.isAgg0
  z0 := Tryz.sizeOf0
  v0 := Tryz.zeroValue0
  t3 := Tryz.underlying3
  a3 := Tryz.isAgg3
  z3 := Tryz.sizeOf3
  v3 := Tryz.zeroValue3
  t4 := Tryz.underlying4
  a4 := Tryz.isAgg4
  z4 := Tryz.sizeOf4
  v4 := Tryz.zeroValue4
  t22 := Tryz.underlying22
  a22 := Tryz.isAgg22
  z22 := Tryz.sizeOf22
  v22 := Tryz.zeroValue22
  i3 := by kernel_rfl }
open Go.TM Go.RowKit Go.Sort
theorem sort_walk {σ : TS} {l : Nat} {zs : List Int} (hl : σ[l]? = some (.row (zs.map (TV.int .i64)))) (hz : zs ≠ []) (hb : zs.length ≤ 100000) :
    TDoes Tryz.prog 100 [.rs l 0 zs.length 1] σ (.tup []) (σ.set l (.row ((zs.mergeSort fun x y => decide (x ≤ y)).map (TV.int .i64)))) :=
  row_does ⟨_, Tryz.func100, rfl, by kernel_rfl⟩ hl hz (by simp) (ret := fun _ _ _ => .tuple #[])
    (fun blk off cap w hH hb hc => Any.slices_Sort_int lays189 blk off cap zs w hH hb (by omega))
    (fun g blk cap base n h1 h2 h3 => by simp only [VR]; exact ⟨_, rfl, by simp only [VRL]⟩)
theorem compact_walk {σ : TS} {l : Nat} {zs : List Int} (hl : σ[l]? = some (.row (zs.map (TV.int .i64)))) (hz : zs ≠ []) (hb : zs.length ≤ 100000) :
    TDoes Tryz.prog 101 [.rs l 0 zs.length 1] σ (.rs l 0 (Lib.compact zs).length 1) (σ.set l (.row ((Lib.compact zs ++ List.replicate (zs.length - (Lib.compact zs).length) 0).map (TV.int .i64)))) :=
  row_does ⟨_, Tryz.func101, rfl, by kernel_rfl⟩ hl hz (by have := Lib.compact_length_le zs; simp; omega) (ret := fun blk off cap => .slice (some ⟨blk, off, none⟩) (Lib.compact zs).length cap)
    (fun blk off cap w hH hb hc => (Any.slices_Compact_int laysNm220 blk off cap zs w hH (by omega) hc).mono fun e w' hx => by
      obtain ⟨h1, q, h2⟩ := hx
      exact ⟨h1, q, #[], by rw [h2, grow_empty]⟩)
    (fun g blk cap base n h1 h2 h3 => by
      have := Lib.compact_length_le zs
      simp only [VR]
      exact ⟨by rw [List.length_set]; exact (List.getElem?_eq_some_iff.1 hl).1, blk, base, cap, rfl, by omega, fun cs _ => ⟨base, n, h1, fun _ => rfl, by omega⟩⟩)
theorem sort_nil (σ : TS) : TPure Tryz.prog 100 [.nils] σ (.tup []) :=
  ⟨⟨_, Tryz.func100, rfl, by kernel_rfl⟩, fun g w va hw hv => by
    simp only [VRL, VR] at hv
    obtain ⟨v1, r1, e1, rfl, rfl⟩ := hv
    obtain rfl : va = #[.slice none 0 0] := Array.toList_inj.1 e1
    refine (Any.slices_Sort_int_none lays189 none 0 w).mono fun e w' hx => ?_
    obtain ⟨rfl, rfl⟩ := hx
    exact ⟨_, _, σ, g, rfl, Ext.refl _ _, hw, by simp only [VR]; exact ⟨_, rfl, by simp only [VRL]⟩, rfl, rfl⟩⟩
theorem compact_nil (σ : TS) : TPure Tryz.prog 101 [.nils] σ .nils := by
  refine pure_of [] [.tmp 2] Tryz.func101 (by kernel_rfl) rfl (by kernel_rfl) fun X hR hN => ?_
  show Tw _ _ _ _ ([some _] ++ List.replicate 60 none) _
  simp only [List.replicate, List.cons_append, List.nil_append]
  have FK := zdum; have FD := zdum; have FL := zdum
  refine walk ?_
  (repeat' first | exact Lv.nil | apply Lv.cons) <;> (intros; clear FL FD FK)
  all_goals trace_state
end Go.Proofs.YtbhhmnfjjnnkiaaGreat
