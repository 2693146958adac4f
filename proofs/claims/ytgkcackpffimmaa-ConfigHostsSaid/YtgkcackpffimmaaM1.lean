/- slices.Sort and slices.Compact of numbers, out of the library's own contracts. (The layings: as the shelf's lay-shelf and lay-plain wrote them for this dump.) -/
import Derived.Shelf.Sort.Plain
import Derived.Shelf.Slices.CompactI
import Derived.Shelf.Slices.In.SortNone
import Derived.Test.YtgkcackpffimmaaM0
import Derived.Test.YtgkcackpffimmaaD2
import Derived.Test.YtgkcackpffimmaaT42
set_option linter.unusedVariables false
set_option linter.unusedSimpArgs false
set_option maxRecDepth 10000
set_option maxHeartbeats 2000000
namespace Go.Proofs.Ytgkcackpffimmaa
open Go.Shelf
def lays189_ren : Go.Shelf.Ren := ⟨fun | 189 => 173 | 125 => 189 | 257 => 188 | 128 => 203 | 129 => 204 | 294 => 194 | 295 => 195 | 296 => 196 | 297 => 197 | 298 => 198 | 299 => 199 | 216 => 200 | 300 => 201 | 301 => 202 | 328 => 205 | 329 => 206 | 330 => 207 | 331 => 208 | 332 => 209 | 215 => 210 | 343 => 211 | n => n, fun | 28 => 22 | 3 => 3 | 46 => 124 | 0 => 0 | 51 => 194 | 53 => 192 | 4 => 4 | 183 => 250 | 182 => 249 | 131 => 254 | 5 => 5 | 9 => 9 | 218 => 258 | 222 => 262 | 228 => 264 | 229 => 265 | n => n, fun | n => n⟩
theorem lays189 : Go.Proofs.Lays.n189 Try.prog lays189_ren := {
  mixed := by kernel_rfl
  f125 := Try.func189.trans (congrArg some (by kernel_rfl))
  f128 := Try.func203.trans (congrArg some (by kernel_rfl))
  f129 := Try.func204.trans (congrArg some (by kernel_rfl))
  f189 := Try.func173.trans (congrArg some (by kernel_rfl))
  f215 := Try.func210.trans (congrArg some (by kernel_rfl))
  f216 := Try.func200.trans (congrArg some (by kernel_rfl))
  f257 := Try.func188.trans (congrArg some (by kernel_rfl))
  f294 := Try.func194.trans (congrArg some (by kernel_rfl))
  f295 := Try.func195.trans (congrArg some (by kernel_rfl))
  f296 := Try.func196.trans (congrArg some (by kernel_rfl))
  f297 := Try.func197.trans (congrArg some (by kernel_rfl))
  f298 := Try.func198.trans (congrArg some (by kernel_rfl))
  f299 := Try.func199.trans (congrArg some (by kernel_rfl))
  f300 := Try.func201.trans (congrArg some (by kernel_rfl))
  f301 := Try.func202.trans (congrArg some (by kernel_rfl))
  f328 := Try.func205.trans (congrArg some (by kernel_rfl))
  f329 := Try.func206.trans (congrArg some (by kernel_rfl))
  f330 := Try.func207.trans (congrArg some (by kernel_rfl))
  f331 := Try.func208.trans (congrArg some (by kernel_rfl))
  f332 := Try.func209.trans (congrArg some (by kernel_rfl))
  f343 := Try.func211.trans (congrArg some (by kernel_rfl))
  t0 := Try.underlying0
  a0 := Try.isAgg0
  z0 := Try.sizeOf0
  v0 := Try.zeroValue0
  t3 := Try.underlying3
  a3 := Try.isAgg3
  z3 := Try.sizeOf3
  v3 := Try.zeroValue3
  t4 := Try.underlying4
  a4 := Try.isAgg4
  z4 := Try.sizeOf4
  v4 := Try.zeroValue4
  t5 := Try.underlying5
  a5 := Try.isAgg5
  z5 := Try.sizeOf5
  v5 := Try.zeroValue5
  t9 := Try.underlying9
  a9 := Try.isAgg9
  z9 := Try.sizeOf9
  v9 := Try.zeroValue9
  t28 := Try.underlying22
  a28 := Try.isAgg22
  z28 := Try.sizeOf22
  v28 := Try.zeroValue22
  t46 := Try.underlying124
  a46 := Try.isAgg124
  z46 := Try.sizeOf124
  v46 := Try.zeroValue124
  t51 := Try.underlying194
  a51 := Try.isAgg194
  z51 := Try.sizeOf194
  v51 := Try.zeroValue194
  t53 := Try.underlying192
  a53 := Try.isAgg192
  z53 := Try.sizeOf192
  v53 := Try.zeroValue192
  t131 := Try.underlying254
  a131 := Try.isAgg254
  z131 := Try.sizeOf254
  v131 := Try.zeroValue254
  t182 := Try.underlying249
  a182 := Try.isAgg249
  z182 := Try.sizeOf249
  v182 := Try.zeroValue249
  t183 := Try.underlying250
  a183 := Try.isAgg250
  z183 := Try.sizeOf250
  v183 := Try.zeroValue250
  t218 := Try.underlying258
  a218 := Try.isAgg258
  z218 := Try.sizeOf258
  v218 := Try.zeroValue258
  t222 := Try.underlying262
  a222 := Try.isAgg262
  z222 := Try.sizeOf262
  v222 := Try.zeroValue262
  t228 := Try.underlying264
  a228 := Try.isAgg264
  z228 := Try.sizeOf264
  v228 := Try.zeroValue264
  t229 := Try.underlying265
  a229 := Try.isAgg265
  z229 := Try.sizeOf265
  v229 := Try.zeroValue265 }
def laysNm220_ren : Go.Shelf.Ren := ⟨fun | 20 => 174 | n => n, fun | 22 => 22 | 3 => 3 | 4 => 4 | 0 => 0 | n => n, fun | n => n⟩
theorem laysNm220 : Go.Proofs.Lays2.n20 Try.prog laysNm220_ren := {
  mixed := by kernel_rfl
  f20 := Try.func174.trans (congrArg some (by kernel_rfl))
  t0 := Try.underlying0
  a0 := Try.isAgg0
  z0 := Try.sizeOf0
  v0 := Try.zeroValue0
  t3 := Try.underlying3
  a3 := Try.isAgg3
  z3 := Try.sizeOf3
  v3 := Try.zeroValue3
  t4 := Try.underlying4
  a4 := Try.isAgg4
  z4 := Try.sizeOf4
  v4 := Try.zeroValue4
  t22 := Try.underlying22
  a22 := Try.isAgg22
  z22 := Try.sizeOf22
  v22 := Try.zeroValue22
  i3 := by kernel_rfl }
open Go.TM Go.RowKit Go.Sort
theorem sort_walk {σ : TS} {l : Nat} {zs : List Int} (hl : σ[l]? = some (.row (zs.map (TV.int .i64)))) (hz : zs ≠ []) (hb : zs.length ≤ 100000) :
    TDoes Try.prog 173 [.rs l 0 zs.length 1] σ (.tup []) (σ.set l (.row ((zs.mergeSort fun x y => decide (x ≤ y)).map (TV.int .i64)))) :=
  row_does ⟨_, Try.func173, rfl, by kernel_rfl⟩ hl hz (by simp) (ret := fun _ _ _ => .tuple #[])
    (fun blk off cap w hH hb hc => Any.slices_Sort_int lays189 blk off cap zs w hH hb (by omega))
    (fun g blk cap base n h1 h2 h3 => by simp only [VR]; exact ⟨_, rfl, by simp only [VRL]⟩)
theorem compact_walk {σ : TS} {l : Nat} {zs : List Int} (hl : σ[l]? = some (.row (zs.map (TV.int .i64)))) (hz : zs ≠ []) (hb : zs.length ≤ 100000) :
    TDoes Try.prog 174 [.rs l 0 zs.length 1] σ (.rs l 0 (Lib.compact zs).length 1) (σ.set l (.row ((Lib.compact zs ++ List.replicate (zs.length - (Lib.compact zs).length) 0).map (TV.int .i64)))) :=
  row_does ⟨_, Try.func174, rfl, by kernel_rfl⟩ hl hz (by have := Lib.compact_length_le zs; simp; omega) (ret := fun blk off cap => .slice (some ⟨blk, off, none⟩) (Lib.compact zs).length cap)
    (fun blk off cap w hH hb hc => (Any.slices_Compact_int laysNm220 blk off cap zs w hH (by omega) hc).mono fun e w' hx => by
      obtain ⟨h1, q, h2⟩ := hx
      exact ⟨h1, q, #[], by rw [h2, grow_empty]⟩)
    (fun g blk cap base n h1 h2 h3 => by
      have := Lib.compact_length_le zs
      simp only [VR]
      exact ⟨by rw [List.length_set]; exact (List.getElem?_eq_some_iff.1 hl).1, blk, base, cap, rfl, by omega, fun cs _ => ⟨base, n, h1, fun _ => rfl, by omega⟩⟩)
theorem sort_nil (σ : TS) : TPure Try.prog 173 [.nils] σ (.tup []) :=
  ⟨⟨_, Try.func173, rfl, by kernel_rfl⟩, fun g w va hw hv => by
    simp only [VRL, VR] at hv
    obtain ⟨v1, r1, e1, rfl, rfl⟩ := hv
    obtain rfl : va = #[.slice none 0 0] := Array.toList_inj.1 e1
    refine (Any.slices_Sort_int_none lays189 none 0 w).mono fun e w' hx => ?_
    obtain ⟨rfl, rfl⟩ := hx
    exact ⟨_, _, σ, g, rfl, Ext.refl _ _, hw, by simp only [VR]; exact ⟨_, rfl, by simp only [VRL]⟩, rfl, rfl⟩⟩
theorem compact_nil (σ : TS) : TPure Try.prog 174 [.nils] σ .nils := by
  refine pure_of [] [.tmp 2] Try.func174 (by kernel_rfl) rfl (by kernel_rfl) fun X hR hN => ?_
  show Tw _ _ _ _ ([some _] ++ List.replicate 60 none) _
  simp only [List.replicate, List.cons_append, List.nil_append]
  repeat' (first
    | ((first | (with_reducible refine WL_do fun Cw cw => ?_) | ((with_reducible apply WP_do); intro Cw cw)); (focus (first | ((with_reducible first | apply O_move | apply O_assign); (repeat rfl)) | ((with_reducible first | apply O_load | apply O_bin | apply O_indexAddr | apply O_len | apply O_store); (repeat rfl); simp (disch := omega) only [go_sem]) | ((with_reducible apply O_sliceR); (focus rfl); intro Cs cs; (try simp (disch := omega) only [evB, ev, constV, const1, Int.reduceLE, Int.natCast_nonneg, Int.toNat_natCast, Int.reduceToNat, if_true, if_pos, List.getElem?_cons_zero, List.getElem?_cons_succ, Option.bind_some, Option.bind_none]); simp (disch := omega) only [go_sem]; (with_reducible apply cs); clear cs Cs)); (first | (with_reducible exact cw) | ((with_reducible apply cw); (focus ((try simp only [zp]); exact rfl)); clear cw Cw))); (try ((with_reducible apply eq_id); (focus ((try simp only [zp]); exact rfl)))))
    | ((with_reducible first | refine WL_nil (hK _ _ ?_) | refine WP_nil (hK _ _ ?_)); clear hK K)
    | ((with_reducible first | refine T_reg_seq fun K hK => ?_ | refine T_reg_end fun K hK => ?_); simp only [zl])
    | ((with_reducible first | refine T_pure_seq ?_ ?_ (fun K hK => ?_) | refine T_pure_end ?_ ?_ (fun K hK => ?_)); (focus kernel_rfl); (focus kernel_rfl); simp only [zl])
    | ((with_reducible first | apply T_cond_seq | apply T_cond); (focus rfl))
    | (intro hg; (first | (simp only [zb] at hg; done) | ((try simp only [zb, eq_self] at hg); (have hh : True := hg); clear hh hg) | ((try simp only [zb] at hg); (try (have hh := hg; simp only [hh]; clear hh)); (try simp only [zg, zq, ne_eq, gt_iff_lt, ge_iff_le] at hg); (try (exfalso; omega)))))
    | with_reducible first | apply T_seq_assoc | apply T_skip_seq | apply T_ret_seq | apply T_exit_seq | apply T_ret | apply T_skip | apply T_exit | refine T_block_seq fun Kb hKb => ?_ | apply T_block
    | (simp only [TX.inBlock, TX.then, zi, Nat.reduceEqDiff])
    | ((with_reducible first | refine hR _ _ (fun C cc => ?_) | refine hN _ _ (fun C cc => ?_)); simp (disch := omega) only [go_sem]; (with_reducible apply cc); clear cc C; (first | refine Ends.more (by first | rfl | simp only [go_sem, Bool.and_self]) ?_ | refine Ends.same (by first | rfl | simp only [go_sem, Bool.and_self]) ?_); (try simp only [go_sem, Bool.and_self]))
    | (with_reducible apply_assumption -exfalso -symm only [*]))
  all_goals trace_state
end Go.Proofs.Ytgkcackpffimmaa
