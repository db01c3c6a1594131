/- Several texts of mine, one behind the other: Shelf, PathSplit, PathMore, PathWithin, NumSpec, VerSpec, CrcSpec, ArcSpec, MapKeys. -/
import Derived.Shelf.Strings.Builder1
import Derived.Shelf.Strings.Builder2
import Derived.Shelf.Strings.OnBuilder
import Derived.Shelf.Small.Bits
import Derived.Shelf.Strings.BuilderF
import Derived.Shelf.Strings.BuilderK
import Derived.Shelf.Strconv.Itoa0
import Derived.Shelf.Strings.Search1
import Derived.Shelf.Strings.Search2
import Derived.Shelf.Strings.Search3
import Derived.Shelf.Strings.Count
import Derived.Shelf.LaysM
import Derived.Shelf.Strings.Shaped
import Derived.Shelf.Strings.Prefix
import Derived.Shelf.Strings.Split
import Derived.Shelf.Strings.SplitShaped
import Derived.Shelf.Unicode.DecodeSlow
import Derived.Shelf.Slices.Turned
import Derived.Ground.Names2Prog
import Derived.Shelf.Slices.Delete
import Derived.Shelf.Slices.Cells
import Derived.Ground.SlgnProg
import Derived.Shelf.SlicesE.Index
import Derived.Shelf.SlicesE.Delete
import Derived.Shelf.SlicesE.Clone
import Derived.Ground.SlgfProg
import Derived.Shelf.SlicesE.IndexFunc
import Derived.Shelf.SlicesE.DeleteFunc
import Derived.Ground.SlgmProg
import Derived.Shelf.SortM.Plain
import Derived.Shelf.SortM.SortNone
import Derived.Test.YtefpllpichhojaaGreatDoorProg
import Derived.Shelf.SlMaps.Clone
import Derived.Ground.SlmcProg
import Derived.Shelf.SlIterI.Nil
import Derived.Shelf.SlIterI.Sorted
import Derived.Ground.GgzProg
import Derived.Shelf.SlIter.Nil
import Derived.Test.YtefpllpichhojaaGreatDoorM1
import Derived.WalkSpells
import Derived.WalkLawsBesides
import Derived.BigGuardPart
import Derived.Deep.RegionHeld3
import Derived.StillTailTactics
import Derived.BigQuiet
import Derived.Deep.QuietTactic
import Derived.Lib.AtoiAll
import Derived.Lib.ItoaNum
import Derived.Lib.IndexMore
import Derived.KernelRfl
import Derived.Sort.KeysCollected
namespace Go.Proofs
open Go.Shelf
def Tryz.lays156_ren : Go.Shelf.Ren := ⟨fun | 156 => 227 | 165 => 234 | 166 => 235 | 169 => 236 | 240 => 242 | 241 => 243 | 276 => 246 | 277 => 247 | n => n, fun | 31 => 29 | 9 => 9 | 3 => 3 | 4 => 4 | 0 => 0 | 20 => 20 | 72 => 311 | 76 => 315 | 70 => 309 | 37 => 50 | 75 => 314 | 127 => 317 | 164 => 324 | 5 => 5 | 80 => 168 | n => n, fun | n => n⟩
theorem Tryz.lays156 : Go.Proofs.Lays.n156 Tryz.prog Tryz.lays156_ren := {
 mixed := by kernel_rfl
 f156 := Tryz.func227.trans (congrArg some (by kernel_rfl))
 f165 := Tryz.func234.trans (congrArg some (by kernel_rfl))
 f166 := Tryz.func235.trans (congrArg some (by kernel_rfl))
 f169 := Tryz.func236.trans (congrArg some (by kernel_rfl))
 f240 := Tryz.func242.trans (congrArg some (by kernel_rfl))
 f241 := Tryz.func243.trans (congrArg some (by kernel_rfl))
 f276 := Tryz.func246.trans (congrArg some (by kernel_rfl))
 f277 := Tryz.func247.trans (congrArg some (by kernel_rfl))
 t0 := Tryz.underlying0
 a0 := Tryz.isAgg0
 z0 := Tryz.sizeOf0
 v0 := Tryz.zeroValue0
 t3 := Tryz.underlying3
 a3 := Tryz.isAgg3
 z3 := Tryz.sizeOf3
 v3 := Tryz.zeroValue3
 t4 := Tryz.underlying4
 a4 := Tryz.isAgg4
 z4 := Tryz.sizeOf4
 v4 := Tryz.zeroValue4
 t9 := Tryz.underlying9
 a9 := Tryz.isAgg9
 z9 := Tryz.sizeOf9
 v9 := Tryz.zeroValue9
 t20 := Tryz.underlying20
 a20 := Tryz.isAgg20
 z20 := Tryz.sizeOf20
 v20 := Tryz.zeroValue20
 t31 := Tryz.underlying29
 a31 := Tryz.isAgg29
 z31 := Tryz.sizeOf29
 v31 := Tryz.zeroValue29
 t37 := Tryz.underlying50
 a37 := Tryz.isAgg50
 z37 := Tryz.sizeOf50
 v37 := Tryz.zeroValue50
 t70 := Tryz.underlying309
 a70 := Tryz.isAgg309
 z70 := Tryz.sizeOf309
 v70 := Tryz.zeroValue309
 t72 := Tryz.underlying311
 a72 := Tryz.isAgg311
 z72 := Tryz.sizeOf311
 v72 := Tryz.zeroValue311
 t75 := Tryz.underlying314
 a75 := Tryz.isAgg314
 z75 := Tryz.sizeOf314
 v75 := Tryz.zeroValue314
 t76 := Tryz.underlying315
 a76 := Tryz.isAgg315
 z76 := Tryz.sizeOf315
 v76 := Tryz.zeroValue315
 t127 := Tryz.underlying317
 a127 := Tryz.isAgg317
 z127 := Tryz.sizeOf317
 v127 := Tryz.zeroValue317
 t164 := Tryz.underlying324
 a164 := Tryz.isAgg324
 z164 := Tryz.sizeOf324
 v164 := Tryz.zeroValue324 }
theorem Tryz.Builder_Extra_156 : Builder.Extra Tryz.prog Tryz.lays156_ren := {
 sizeBuilder := by kernel_rfl
 liesBuilder := by kernel_rfl
 t5 := Tryz.underlying5
 a5 := Tryz.isAgg5
 z5 := Tryz.sizeOf5
 v5 := Tryz.zeroValue5
 infoByte := by kernel_rfl
 cellsByte := by kernel_rfl
 sizeByte := by kernel_rfl
 neB5 := by decide }
open Go.RowKit in
theorem Tryz.strings_Join_none (a : Option Addr) (c : Nat) (sep : ByteArray) (w : World) :
 Calls Tryz.prog 227 #[.slice a 0 c, .string sep] w fun e w' => e = .returned (.string ⟨#[]⟩) ∧ w' = w := Any.strings_Join_none Tryz.lays156 Tryz.Builder_Extra_156 a c sep w
open Go.RowKit in
theorem Tryz.strings_Join (bk o c : Nat) (xs : List ByteArray) (sep : ByteArray) (w : World) (hcells : ∀ (j : Nat) x, xs[j]? = some x → w.cell? ⟨bk, o + j, none⟩ = some (.string x)) (hbk : bk < w.heap.size) (hN : xs.length ≤ 140737488355328) (hcap : xs.length ≤ c) (hlen : (Lib.join (xs.map (·.data.toList)) sep.data.toList).length ≤ 140737488355328) :
 Calls Tryz.prog 227 #[.slice (some ⟨bk, o, none⟩) xs.length c, .string sep] w fun e w' => e = .returned (.string ⟨(Lib.join (xs.map (·.data.toList)) sep.data.toList).toArray⟩) ∧ Below w.heap.size w w' := Any.strings_Join Tryz.lays156 Tryz.Builder_Extra_156 bk o c xs sep w hcells hbk hN hcap hlen
def Tryz.lays99_ren : Go.Shelf.Ren := ⟨fun | 99 => 183 | 206 => 210 | n => n, fun | 9 => 9 | 4 => 4 | 3 => 3 | n => n, fun | n => n⟩
theorem Tryz.lays99 : Go.Proofs.Lays.n99 Tryz.prog Tryz.lays99_ren := {
 mixed := by kernel_rfl
 f99 := Tryz.func183.trans (congrArg some (by kernel_rfl))
 f206 := Tryz.func210.trans (congrArg some (by kernel_rfl))
 t3 := Tryz.underlying3
 a3 := Tryz.isAgg3
 z3 := Tryz.sizeOf3
 v3 := Tryz.zeroValue3
 t4 := Tryz.underlying4
 a4 := Tryz.isAgg4
 z4 := Tryz.sizeOf4
 v4 := Tryz.zeroValue4
 t9 := Tryz.underlying9
 a9 := Tryz.isAgg9
 z9 := Tryz.sizeOf9
 v9 := Tryz.zeroValue9 }
open Go.RowKit Go.Lib in
theorem Tryz.strings_HasPrefix (s p : ByteArray) (w : World) :
 Calls Tryz.prog 183 #[.string s, .string p] w fun e w' => e = .returned (.bool (Lib.hasPrefix s.data.toList p.data.toList)) ∧ w' = w := Any.strings_HasPrefix Tryz.lays99 s p w
def Tryz.laysM146_ren : Go.Shelf.Ren := ⟨fun | 146 => 184 | 221 => 211 | 268 => 224 | 138 => 225 | 143 => 226 | 195 => 230 | 197 => 231 | 218 => 232 | 219 => 233 | 260 => 237 | 217 => 238 | 225 => 239 | 224 => 240 | 267 => 241 | 266 => 244 | 314 => 245 | n => n, fun | 9 => 9 | 31 => 29 | 3 => 3 | 4 => 4 | 0 => 0 | 105 => 306 | 21 => 21 | 5 => 5 | 46 => 117 | 119 => 318 | 139 => 321 | 138 => 320 | 146 => 322 | 51 => 253 | n => n, fun | 1 => 0 | 3 => 1 | 4 => 2 | n => n⟩
theorem Tryz.laysM146 : Go.Proofs.LaysM.n146 Tryz.prog Tryz.laysM146_ren := {
 mixed := by kernel_rfl
 f138 := Tryz.func225.trans (congrArg some (by kernel_rfl))
 f143 := Tryz.func226.trans (congrArg some (by kernel_rfl))
 f146 := Tryz.func184.trans (congrArg some (by kernel_rfl))
 f195 := Tryz.func230.trans (congrArg some (by kernel_rfl))
 f197 := Tryz.func231.trans (congrArg some (by kernel_rfl))
 f217 := Tryz.func238.trans (congrArg some (by kernel_rfl))
 f218 := Tryz.func232.trans (congrArg some (by kernel_rfl))
 f219 := Tryz.func233.trans (congrArg some (by kernel_rfl))
 f221 := Tryz.func211.trans (congrArg some (by kernel_rfl))
 f224 := Tryz.func240.trans (congrArg some (by kernel_rfl))
 f225 := Tryz.func239.trans (congrArg some (by kernel_rfl))
 f260 := Tryz.func237.trans (congrArg some (by kernel_rfl))
 f266 := Tryz.func244.trans (congrArg some (by kernel_rfl))
 f267 := Tryz.func241.trans (congrArg some (by kernel_rfl))
 f268 := Tryz.func224.trans (congrArg some (by kernel_rfl))
 f314 := Tryz.func245.trans (congrArg some (by kernel_rfl))
 t0 := Tryz.underlying0
 a0 := Tryz.isAgg0
 z0 := Tryz.sizeOf0
 v0 := Tryz.zeroValue0
 t3 := Tryz.underlying3
 a3 := Tryz.isAgg3
 z3 := Tryz.sizeOf3
 v3 := Tryz.zeroValue3
 t4 := Tryz.underlying4
 a4 := Tryz.isAgg4
 z4 := Tryz.sizeOf4
 v4 := Tryz.zeroValue4
 t5 := Tryz.underlying5
 a5 := Tryz.isAgg5
 z5 := Tryz.sizeOf5
 v5 := Tryz.zeroValue5
 t9 := Tryz.underlying9
 a9 := Tryz.isAgg9
 z9 := Tryz.sizeOf9
 v9 := Tryz.zeroValue9
 t21 := Tryz.underlying21
 a21 := Tryz.isAgg21
 z21 := Tryz.sizeOf21
 v21 := Tryz.zeroValue21
 t31 := Tryz.underlying29
 a31 := Tryz.isAgg29
 z31 := Tryz.sizeOf29
 v31 := Tryz.zeroValue29
 t46 := Tryz.underlying117
 a46 := Tryz.isAgg117
 z46 := Tryz.sizeOf117
 v46 := Tryz.zeroValue117
 t51 := Tryz.underlying253
 a51 := Tryz.isAgg253
 z51 := Tryz.sizeOf253
 v51 := Tryz.zeroValue253
 t105 := Tryz.underlying306
 a105 := Tryz.isAgg306
 z105 := Tryz.sizeOf306
 v105 := Tryz.zeroValue306
 t119 := Tryz.underlying318
 a119 := Tryz.isAgg318
 z119 := Tryz.sizeOf318
 t138 := Tryz.underlying320
 a138 := Tryz.isAgg320
 z138 := Tryz.sizeOf320
 v138 := Tryz.zeroValue320
 t139 := Tryz.underlying321
 a139 := Tryz.isAgg321
 z139 := Tryz.sizeOf321
 v139 := Tryz.zeroValue321
 t146 := Tryz.underlying322
 a146 := Tryz.isAgg322
 z146 := Tryz.sizeOf322
 v146 := Tryz.zeroValue322
 g1 := by kernel_rfl
 g3 := by kernel_rfl
 g4 := by kernel_rfl
 i0 := by kernel_rfl
 i3 := by kernel_rfl
 i4 := by kernel_rfl
 i5 := by kernel_rfl
 i9 := by kernel_rfl
 i21 := by kernel_rfl
 i31 := by kernel_rfl
 i46 := by kernel_rfl
 i51 := by kernel_rfl
 i105 := by kernel_rfl
 i138 := by kernel_rfl
 i139 := by kernel_rfl
 i146 := by kernel_rfl
 m1 := by kernel_rfl
 s1_3 := fun w h => Go.Proofs.cell_of_shapedOpen_int (zero := #[.int .i64 0]) (t := 3) h (of_decide_eq_true (by kernel_rfl)) (by kernel_rfl) rfl (by kernel_rfl) (by kernel_rfl) Tryz.underlying3
 m3 := by kernel_rfl
 m4 := by kernel_rfl }
open Go.RowKit Go.Lib in
def Tryz.lays108_ren : Go.Shelf.Ren := ⟨fun | 108 => 73 | n => n, fun | 28 => 34 | 3 => 3 | 0 => 0 | 4 => 4 | n => n, fun | n => n⟩
theorem Tryz.lays108 : Go.Proofs.Lays.n108 Tryz.prog Tryz.lays108_ren := {
 mixed := by kernel_rfl
 f108 := Tryz.func73.trans (congrArg some (by kernel_rfl))
 t0 := Tryz.underlying0
 a0 := Tryz.isAgg0
 z0 := Tryz.sizeOf0
 v0 := Tryz.zeroValue0
 t3 := Tryz.underlying3
 a3 := Tryz.isAgg3
 z3 := Tryz.sizeOf3
 v3 := Tryz.zeroValue3
 t4 := Tryz.underlying4
 a4 := Tryz.isAgg4
 z4 := Tryz.sizeOf4
 v4 := Tryz.zeroValue4
 t28 := Tryz.underlying34
 a28 := Tryz.isAgg34
 z28 := Tryz.sizeOf34
 v28 := Tryz.zeroValue34 }
open Go.Lib in
theorem Tryz.slices_Index_int (b off n c : Nat) (zs : List Int) (x : Int) (w : World) (hz : n ≤ zs.length) (hbig : n ≤ 9223372036854775807) (hc : ∀ j, j < zs.length → w.cell? ⟨b, off + j, none⟩ = some (.int .i64 (zs.getD j 0))) :
 Calls Tryz.prog 73 #[.slice (some ⟨b, off, none⟩) n c, .int .i64 x] w fun e w' => e = .returned (.int .i64 (Lib.idxOf (zs.take n) x)) ∧ w' = w := Any.slices_Index_int Tryz.lays108 b off n c zs x w hz hbig hc
open Go.Lib in
theorem Tryz.slices_Index_int_empty (a : Option Addr) (c : Nat) (x : Int) (w : World) :
 Calls Tryz.prog 73 #[.slice a 0 c, .int .i64 x] w fun e w' => e = .returned (.int .i64 (Lib.idxOf [] x)) ∧ w' = w := Any.slices_Index_int_empty Tryz.lays108 a c x w
open Go.Lib in
open Go.Lib in
open Go.Lib in
open Go.Lib in
def Tryz.laysNm223_ren : Go.Shelf.Ren := ⟨fun | 23 => 74 | n => n, fun | 22 => 34 | 3 => 3 | 4 => 4 | 0 => 0 | n => n, fun | n => n⟩
theorem Tryz.laysNm223 : Go.Proofs.Lays2.n23 Tryz.prog Tryz.laysNm223_ren := {
 mixed := by kernel_rfl
 f23 := Tryz.func74.trans (congrArg some (by kernel_rfl))
 t0 := Tryz.underlying0
 a0 := Tryz.isAgg0
 z0 := Tryz.sizeOf0
 v0 := Tryz.zeroValue0
 t3 := Tryz.underlying3
 a3 := Tryz.isAgg3
 z3 := Tryz.sizeOf3
 v3 := Tryz.zeroValue3
 t4 := Tryz.underlying4
 a4 := Tryz.isAgg4
 z4 := Tryz.sizeOf4
 v4 := Tryz.zeroValue4
 t22 := Tryz.underlying34
 a22 := Tryz.isAgg34
 z22 := Tryz.sizeOf34
 v22 := Tryz.zeroValue34
 i3 := by kernel_rfl }
open Go.RowKit Go.Lib Go.Sort in
open Go.RowKit Go.Lib Go.Sort in
open Go.RowKit Go.Lib Go.Sort in
theorem Tryz.slices_Delete_int_cells (b off n c i j : Nat) (zs : List Int) (w : World) (hz : n ≤ zs.length) (hcap : n ≤ c) (hm : c ≤ 9223372036854775807) (hij : i ≤ j) (hj : j ≤ n) (hc : ∀ j, j < zs.length → w.cell? ⟨b, off + j, none⟩ = some (.int .i64 (zs.getD j 0))) (hf : ∀ j, j < n → w.frozen? ⟨b, off + j, none⟩ = false) :
 Calls Tryz.prog 74 #[.slice (some ⟨b, off, none⟩) n c, .int .i64 i, .int .i64 j] w fun e w' => e = .returned (.slice (some ⟨b, off, none⟩) (n - (j - i)) c) ∧ ∃ q, w' = (w.drewN q).setCells b off (((zs.take n).take i ++ (zs.take n).drop j ++ List.replicate (j - i) 0).map (Value.int .i64)) := Any.slices_Delete_int_cells Tryz.laysNm223 b off n c i j zs w hz hcap hm hij hj hc hf
open Go.RowKit Go.Lib Go.Sort in
open Go.Sort Go.RowKit in
open Go.RowKit Go.Sort in
def Tryz.mclone_string_int_ren : Go.Shelf.Ren := ⟨fun | 5 => 116 | 7 => 164 | n => n, fun | 23 => 65 | 25 => 9 | 3 => 3 | 4 => 4 | 20 => 20 | n => n, fun | n => n⟩
theorem Tryz.mclone_string_int : Go.Proofs.SlLaysW.n5 Tryz.prog Tryz.mclone_string_int_ren := {
 mixed := by kernel_rfl
 f5 := ⟨Tryz.f116.name, by decide, Tryz.func116.trans (congrArg some (by kernel_rfl))⟩
 f7 := Tryz.func164.trans (congrArg some (by kernel_rfl))
 t4 := Tryz.underlying4
 a4 := Tryz.isAgg4
 z4 := Tryz.sizeOf4
 v4 := Tryz.zeroValue4
 t20 := Tryz.underlying20
 a20 := Tryz.isAgg20
 z20 := Tryz.sizeOf20
 v20 := Tryz.zeroValue20
 t23 := Tryz.underlying65
 a23 := Tryz.isAgg65
 z23 := Tryz.sizeOf65
 v23 := Tryz.zeroValue65 }
def Tryz.keysI_proc_Proc_ren : Go.Shelf.Ren := ⟨fun | 7 => 99 | 10 => 143 | n => n, fun | 23 => 133 | 26 => 3 | 3 => 139 | 28 => 177 | 0 => 0 | 27 => 176 | 33 => 223 | 4 => 4 | n => n, fun | n => n⟩
theorem Tryz.keysI_proc_Proc : Go.Proofs.SlLaysZI.n7 Tryz.prog Tryz.keysI_proc_Proc_ren := {
 mixed := by kernel_rfl
 f7 := ⟨Tryz.f99.name, by decide, Tryz.func99.trans (congrArg some (by kernel_rfl))⟩
 f10 := ⟨Tryz.f143.name, by decide, Tryz.func143.trans (congrArg some (by kernel_rfl))⟩
 t0 := Tryz.underlying0
 a0 := Tryz.isAgg0
 z0 := Tryz.sizeOf0
 v0 := Tryz.zeroValue0
 t4 := Tryz.underlying4
 a4 := Tryz.isAgg4
 z4 := Tryz.sizeOf4
 v4 := Tryz.zeroValue4
 t23 := Tryz.underlying133
 a23 := Tryz.isAgg133
 z23 := Tryz.sizeOf133
 v23 := Tryz.zeroValue133
 t26 := Tryz.underlying3
 a26 := Tryz.isAgg3
 z26 := Tryz.sizeOf3
 v26 := Tryz.zeroValue3
 t27 := Tryz.underlying176
 a27 := Tryz.isAgg176
 z27 := Tryz.sizeOf176
 v27 := Tryz.zeroValue176
 t28 := Tryz.underlying177
 a28 := Tryz.isAgg177
 z28 := Tryz.sizeOf177
 v28 := Tryz.zeroValue177
 t33 := Tryz.underlying223
 a33 := Tryz.isAgg223
 z33 := Tryz.sizeOf223
 v33 := Tryz.zeroValue223 }
def Tryz.deletefunc_int_ren : Go.Shelf.Ren := ⟨fun | 10 => 131 | 6 => 174 | n => n, fun | 22 => 34 | 23 => 3 | 25 => 223 | 3 => 3 | 4 => 4 | 0 => 0 | n => n, fun | n => n⟩
theorem Tryz.deletefunc_int : Go.Proofs.SlLaysH.n10 Tryz.prog Tryz.deletefunc_int_ren := {
 mixed := by kernel_rfl
 f6 := ⟨Tryz.f174.name, by decide, Tryz.func174.trans (congrArg some (by kernel_rfl))⟩
 f10 := ⟨Tryz.f131.name, by decide, Tryz.func131.trans (congrArg some (by kernel_rfl))⟩
 t0 := Tryz.underlying0
 a0 := Tryz.isAgg0
 z0 := Tryz.sizeOf0
 v0 := Tryz.zeroValue0
 t3 := Tryz.underlying3
 a3 := Tryz.isAgg3
 z3 := Tryz.sizeOf3
 v3 := Tryz.zeroValue3
 t4 := Tryz.underlying4
 a4 := Tryz.isAgg4
 z4 := Tryz.sizeOf4
 v4 := Tryz.zeroValue4
 t22 := Tryz.underlying34
 a22 := Tryz.isAgg34
 z22 := Tryz.sizeOf34
 v22 := Tryz.zeroValue34
 a23 := Tryz.isAgg3
 z23 := Tryz.sizeOf3
 t25 := Tryz.underlying223
 a25 := Tryz.isAgg223
 z25 := Tryz.sizeOf223
 v25 := Tryz.zeroValue223 }
def Tryz.sort_int_ren : Go.Shelf.Ren := ⟨fun | 5 => 142 | 8 => 178 | 7 => 177 | 19 => 199 | 20 => 200 | 10 => 190 | 11 => 191 | 12 => 192 | 13 => 193 | 14 => 194 | 15 => 195 | 16 => 196 | 17 => 197 | 18 => 198 | 30 => 214 | 31 => 215 | 32 => 216 | 33 => 217 | 34 => 218 | 35 => 219 | 40 => 228 | n => n, fun | 23 => 34 | 25 => 3 | 3 => 3 | 32 => 117 | 22 => 34 | 0 => 0 | 44 => 253 | 46 => 188 | 4 => 4 | 36 => 277 | 35 => 276 | 41 => 136 | 5 => 5 | 9 => 9 | 53 => 292 | 57 => 296 | 63 => 303 | 64 => 37 | n => n, fun | n => n⟩
theorem Tryz.sort_int : Go.Proofs.SlLaysM.n5 Tryz.prog Tryz.sort_int_ren := {
 mixed := by kernel_rfl
 f5 := ⟨Tryz.f142.name, by decide, Tryz.func142.trans (congrArg some (by kernel_rfl))⟩
 f7 := ⟨Tryz.f177.name, by decide, Tryz.func177.trans (congrArg some (by kernel_rfl))⟩
 f8 := Tryz.func178.trans (congrArg some (by kernel_rfl))
 f10 := ⟨Tryz.f190.name, by decide, Tryz.func190.trans (congrArg some (by kernel_rfl))⟩
 f11 := ⟨Tryz.f191.name, by decide, Tryz.func191.trans (congrArg some (by kernel_rfl))⟩
 f12 := ⟨Tryz.f192.name, by decide, Tryz.func192.trans (congrArg some (by kernel_rfl))⟩
 f13 := ⟨Tryz.f193.name, by decide, Tryz.func193.trans (congrArg some (by kernel_rfl))⟩
 f14 := ⟨Tryz.f194.name, by decide, Tryz.func194.trans (congrArg some (by kernel_rfl))⟩
 f15 := ⟨Tryz.f195.name, by decide, Tryz.func195.trans (congrArg some (by kernel_rfl))⟩
 f16 := ⟨Tryz.f196.name, by decide, Tryz.func196.trans (congrArg some (by kernel_rfl))⟩
 f17 := ⟨Tryz.f197.name, by decide, Tryz.func197.trans (congrArg some (by kernel_rfl))⟩
 f18 := ⟨Tryz.f198.name, by decide, Tryz.func198.trans (congrArg some (by kernel_rfl))⟩
 f19 := Tryz.func199.trans (congrArg some (by kernel_rfl))
 f20 := Tryz.func200.trans (congrArg some (by kernel_rfl))
 f30 := ⟨Tryz.f214.name, by decide, Tryz.func214.trans (congrArg some (by kernel_rfl))⟩
 f31 := Tryz.func215.trans (congrArg some (by kernel_rfl))
 f32 := Tryz.func216.trans (congrArg some (by kernel_rfl))
 f33 := ⟨Tryz.f217.name, by decide, Tryz.func217.trans (congrArg some (by kernel_rfl))⟩
 f34 := ⟨Tryz.f218.name, by decide, Tryz.func218.trans (congrArg some (by kernel_rfl))⟩
 f35 := ⟨Tryz.f219.name, by decide, Tryz.func219.trans (congrArg some (by kernel_rfl))⟩
 f40 := ⟨Tryz.f228.name, by decide, Tryz.func228.trans (congrArg some (by kernel_rfl))⟩
 t0 := Tryz.underlying0
 a0 := Tryz.isAgg0
 z0 := Tryz.sizeOf0
 v0 := Tryz.zeroValue0
 t3 := Tryz.underlying3
 a3 := Tryz.isAgg3
 z3 := Tryz.sizeOf3
 v3 := Tryz.zeroValue3
 t4 := Tryz.underlying4
 a4 := Tryz.isAgg4
 z4 := Tryz.sizeOf4
 v4 := Tryz.zeroValue4
 t5 := Tryz.underlying5
 a5 := Tryz.isAgg5
 z5 := Tryz.sizeOf5
 v5 := Tryz.zeroValue5
 t9 := Tryz.underlying9
 a9 := Tryz.isAgg9
 z9 := Tryz.sizeOf9
 v9 := Tryz.zeroValue9
 t22 := Tryz.underlying34
 a22 := Tryz.isAgg34
 z22 := Tryz.sizeOf34
 v22 := Tryz.zeroValue34
 t23 := Tryz.underlying34
 a23 := Tryz.isAgg34
 z23 := Tryz.sizeOf34
 v23 := Tryz.zeroValue34
 t25 := Tryz.underlying3
 a25 := Tryz.isAgg3
 z25 := Tryz.sizeOf3
 v25 := Tryz.zeroValue3
 t32 := Tryz.underlying117
 a32 := Tryz.isAgg117
 z32 := Tryz.sizeOf117
 v32 := Tryz.zeroValue117
 t35 := Tryz.underlying276
 a35 := Tryz.isAgg276
 z35 := Tryz.sizeOf276
 v35 := Tryz.zeroValue276
 t36 := Tryz.underlying277
 a36 := Tryz.isAgg277
 z36 := Tryz.sizeOf277
 v36 := Tryz.zeroValue277
 t41 := Tryz.underlying136
 a41 := Tryz.isAgg136
 z41 := Tryz.sizeOf136
 v41 := Tryz.zeroValue136
 t44 := Tryz.underlying253
 a44 := Tryz.isAgg253
 z44 := Tryz.sizeOf253
 v44 := Tryz.zeroValue253
 t46 := Tryz.underlying188
 a46 := Tryz.isAgg188
 z46 := Tryz.sizeOf188
 v46 := Tryz.zeroValue188
 t53 := Tryz.underlying292
 a53 := Tryz.isAgg292
 z53 := Tryz.sizeOf292
 v53 := Tryz.zeroValue292
 t57 := Tryz.underlying296
 a57 := Tryz.isAgg296
 z57 := Tryz.sizeOf296
 v57 := Tryz.zeroValue296
 t63 := Tryz.underlying303
 a63 := Tryz.isAgg303
 z63 := Tryz.sizeOf303
 v63 := Tryz.zeroValue303
 t64 := Tryz.underlying37
 a64 := Tryz.isAgg37
 z64 := Tryz.sizeOf37
 v64 := Tryz.zeroValue37 }
def Tryz.sorted_int_ren : Go.Shelf.Ren := ⟨fun | 6 => 98 | 8 => 141 | 9 => 142 | 11 => 176 | 13 => 178 | 12 => 177 | 23 => 199 | 24 => 200 | 14 => 190 | 15 => 191 | 16 => 192 | 17 => 193 | 18 => 194 | 19 => 195 | 20 => 196 | 21 => 197 | 22 => 198 | 25 => 214 | 26 => 215 | 27 => 216 | 28 => 217 | 29 => 218 | 30 => 219 | 31 => 228 | n => n, fun | 26 => 3 | 28 => 177 | 24 => 34 | 0 => 0 | 3 => 3 | 37 => 117 | 48 => 253 | 50 => 188 | 4 => 4 | 40 => 277 | 39 => 276 | 45 => 136 | 5 => 5 | 9 => 9 | 51 => 292 | 55 => 296 | 57 => 303 | 58 => 37 | 33 => 223 | n => n, fun | n => n⟩
theorem Tryz.sorted_int : Go.Proofs.SlLaysZI.n6 Tryz.prog Tryz.sorted_int_ren := {
 mixed := by kernel_rfl
 f6 := ⟨Tryz.f98.name, by decide, Tryz.func98.trans (congrArg some (by kernel_rfl))⟩
 f8 := ⟨Tryz.f141.name, by decide, Tryz.func141.trans (congrArg some (by kernel_rfl))⟩
 f11 := ⟨Tryz.f176.name, by decide, Tryz.func176.trans (congrArg some (by kernel_rfl))⟩
 t0 := Tryz.underlying0
 a0 := Tryz.isAgg0
 z0 := Tryz.sizeOf0
 v0 := Tryz.zeroValue0
 t24 := Tryz.underlying34
 a24 := Tryz.isAgg34
 z24 := Tryz.sizeOf34
 v24 := Tryz.zeroValue34
 t26 := Tryz.underlying3
 a26 := Tryz.isAgg3
 z26 := Tryz.sizeOf3
 v26 := Tryz.zeroValue3
 t28 := Tryz.underlying177
 a28 := Tryz.isAgg177
 z28 := Tryz.sizeOf177
 v28 := Tryz.zeroValue177
 i26 := by kernel_rfl }
end Go.Proofs
namespace Go.Proofs.YtefpllpichhojaaGreatDoor
open Go.RowKit
theorem hasPrefix_head (l : List UInt8) (c : UInt8) : Lib.hasPrefix l [c] = decide (l.head? = some c) := by
 cases l with
 | nil => simp [Lib.hasPrefix]
 | cons x r =>
   rw [Bool.eq_iff_iff]; simp [Lib.hasPrefix, List.isPrefixOf]; exact eq_comm
theorem split_tail (s : ByteArray) (w : World) (hE : Env w) (h1 : 1 ≤ s.size) (hs : s.size ≤ 40) :
 Calls Tryz.prog 184 #[.string (s.extract 1 s.size), .string ⟨#[47]⟩] w fun e w' =>
  e = .returned (.slice (some ⟨w.heap.size, 0, none⟩) (splitOn 47 s.data.toList.tail).length (splitOn 47 s.data.toList.tail).length) ∧
    w.alloc (.cells (((splitOn 47 s.data.toList.tail).map bs).map Value.string).toArray 9) = w' := by
 have e1 : s.extract 1 s.size = bs s.data.toList.tail := by
  rw [extract_bs]; congr 1
  rw [List.take_of_length_le (by simp)]; simp
 obtain ⟨m, hm⟩ := hE.cell
 have h := Any.strings_Split { Tryz.laysM146 with } Tryz.laysM146.i9 (bs s.data.toList.tail) (bs [47]) m w (by rw [bs_size]; simp; omega) hm (by rw [bs_size]; simp)
 rw [splitB_on, countB_on, bs_data] at h
 rw [e1]
 exact h.mono fun e w' ⟨he, hw⟩ => ⟨he, hw.symm⟩
def SplitR (o : Option (List (List UInt8))) (w : World) (e : Ending) (w' : World) : Prop :=
 match o with
 | none => e = .returned (.tuple #[.slice none 0 0, .bool false]) ∧ Ext w w'
 | some L => ∃ a cap, e = .returned (.tuple #[.slice a L.length cap, .bool true]) ∧ L.length ≤ cap ∧ Strs w' a L ∧ Ext w w'
theorem toList_root {s : ByteArray} (h : (s.toList == [47]) = true) : s.data.toList = [47] := by
 have h := beq_iff_eq.1 h; rwa [ByteArray.toList_eq] at h
theorem toList_not {s : ByteArray} {l : List UInt8} (h : (s.toList == l) = false) : s.data.toList ≠ l := by
 have h := beq_eq_false_iff_ne.1 h; rwa [ByteArray.toList_eq] at h
theorem head_size {s : ByteArray} {c : UInt8} (h : s.data.toList.head? = some c) : 1 ≤ s.size := by
 cases hs : s.data.toList with
 | nil => rw [hs] at h; cases h
 | cons x r => rw [← size_len, hs]; simp
set_option maxHeartbeats 400000 in
theorem path_split (s : ByteArray) (w : World) (hE : Env w) :
 Calls Tryz.prog 163 #[.string s] w (SplitR (pathL s.data.toList) w) := by
 go_enter Tryz.func163, Tryz.ntmps163
 go_wp2_with fail
 · go_ret2; rw [toList_root ‹_›, pathL_root]; exact ⟨none, 0, rfl, Nat.le_refl _, Strs.nil _ _, Ext.refl _⟩
 · go_ret2; rw [pathL_long (by rw [size_len]; omega)]; exact ⟨rfl, Ext.refl _⟩
 · have hn := Lib.hid (toList_not (s := s) (l := [47]) ‹_›)
   refine (Tryz.strings_HasPrefix _ _ _).mono ?_
   rintro e w' ⟨rfl, rfl⟩
   rw [show (({ data := #[47] } : ByteArray).data.toList) = [47] from rfl, hasPrefix_head]
   cases hh : decide (s.data.toList.head? = some 47) with
   | false =>
     have HH := Lib.hid (of_decide_eq_false hh); clear hh
     go_wp2_with fail
     go_ret2; rw [pathL_head hn.out HH.out]; exact ⟨rfl, Ext.refl _⟩
   | true =>
     have HH := Lib.hid (of_decide_eq_true hh); clear hh
     have h1 := head_size HH.out
     go_wp2_with fail
     refine (split_tail s _ hE h1 (by omega)).mono ?_
     rintro e w1 ⟨rfl, hw1⟩
     have hx : Ext w' w1 := by rw [← hw1]; exact Ext.alloc _ _
     have hS : Strs w1 (some ⟨w'.heap.size, 0, none⟩) (splitOn 47 s.data.toList.tail) := by rw [← hw1]; exact Strs.made _ _ _
     have hL1 := splitOn_length_pos 47 s.data.toList.tail
     clear hw1
     generalize hL : splitOn 47 s.data.toList.tail = L at *
     have HL := Lib.hid hL; clear hL
     have HS := Lib.hid hS; clear hS
     by_cases h5 : 5 < L.length
     · go_wp2_with fail
       go_ret2; rw [pathL_many hn.out (by rw [HL.out]; exact h5)]; exact ⟨rfl, hx⟩
     · go_wp2_with fail
       go_loopw [25] (fun i wr => ∃ k : Nat, k ≤ L.length ∧ i = .int .i64 k ∧ Hid ((L.take k).all nameL = true) ∧ Ext w1 wr) (fun i _ => L.length - (intOf i).toNat)
       case atStart => exact ⟨0, Nat.zero_le _, rfl, Lib.hid (by simp), Ext.refl _⟩
       case round =>
        obtain ⟨k, hk, rfl, hall, hext⟩ := hrel
        by_cases hlt : k < L.length
        · have hcell := hext.cell (HS.out.at0 k hlt)
          obtain ⟨p, hp⟩ : ∃ p, p = L.getD k [] := ⟨_, rfl⟩
          rw [← hp] at hcell
          have HP := Lib.hid hp; clear hp
          cases hname : nameL p with
          | false =>
            have HN := Lib.hid hname; clear hname
            go_wp2_with (go_at_call 185; refine (name_any _ _).mono ?_; rintro e w2 ⟨rfl, hb2⟩; rw [bs_data, HN.out])
            go_ret2
            rw [pathL_bad hn.out (by rw [HL.out]; exact all_getD hlt (by rw [← HP.out]; exact HN.out))]; exact ⟨rfl, hx.trans (hext.trans hb2)⟩
          | true =>
            have HN := Lib.hid hname; clear hname
            go_wp2_with (go_at_call 185; refine (name_any _ _).mono ?_; rintro e w2 ⟨rfl, hb2⟩; rw [bs_data, HN.out])
            go_roundw
            case rel => exact ⟨k + 1, by omega, by go_num, Lib.hid (all_take_step hlt hall.out (by rw [← HP.out]; exact HN.out)), hext.trans hb2⟩
            case measure => simp [intOf]; omega
        · have hkk : k = L.length := by omega
          go_wp2
          go_ret2
          subst hkk
          have hall := hall.out
          rw [List.take_length] at hall
          rw [pathL_good hn.out (by rw [size_len]; omega) HH.out (by rw [HL.out]; omega) (by rw [HL.out]; exact hall), HL.out]
          exact ⟨_, _, rfl, Nat.le_refl _, HS.out.ext hext, hx.trans hext⟩
end Go.Proofs.YtefpllpichhojaaGreatDoor
namespace Go.Proofs.YtefpllpichhojaaGreatDoor
open Go.RowKit
theorem split_none {s : ByteArray} (w : World) (hE : Env w) (h : pathL s.data.toList = none) :
 Calls Tryz.prog 163 #[.string s] w fun e w' => e = .returned (.tuple #[.slice none 0 0, .bool false]) ∧ Ext w w' := by
 have := path_split s w hE; rw [h] at this; exact this
theorem split_some {s : ByteArray} {L : List (List UInt8)} (w : World) (hE : Env w) (h : pathL s.data.toList = some L) :
 Calls Tryz.prog 163 #[.string s] w fun e w' => ∃ a cap, e = .returned (.tuple #[.slice a L.length cap, .bool true]) ∧ L.length ≤ cap ∧ Strs w' a L ∧ Ext w w' := by
 have := path_split s w hE; rw [h] at this; exact this
theorem joinTail_glue (L : List (List UInt8)) : Lib.joinTail [47] L = glue 47 L := by simp [Lib.joinTail, glue] -- 227
theorem join_joinP (L : List (List UInt8)) : 47 :: Lib.join L [47] = joinP L := by -- 227
 cases L with
 | nil => rfl
 | cons p r => rw [Lib.join_cons, joinTail_glue, joinP_cons, glue_cons]; rfl
theorem path_join (a : Option Addr) (L : List (List UInt8)) (c : Nat) (w : World) (hS : Strs w a L) (hc : L.length ≤ c) (hN : L.length ≤ 140737488355328) (hlen : (joinP L).length ≤ 140737488355328) :
 Calls Tryz.prog 213 #[.slice a L.length c] w fun e w' => e = .returned (.string (bs (joinP L))) ∧ Ext w w' := by
 have HJ := Lib.hid (join_joinP L)
 have hjl : (Lib.join L [47]).length + 1 = (joinP L).length := by rw [← join_joinP]; simp
 have HJL := Lib.hid hjl; clear hjl
 have key : Calls Tryz.prog 227 #[.slice a L.length c, .string ⟨#[47]⟩] w fun e w' => e = .returned (.string (bs (Lib.join L [47]))) ∧ Ext w w' := by
  rcases hS with hS | ⟨g, off, rfl, hg, hcell⟩
  · subst hS
    refine (Tryz.strings_Join_none _ _ _ _).mono ?_
    rintro e w' ⟨rfl, rfl⟩
    exact ⟨ret_str rfl, Ext.refl _⟩
  · have h := Tryz.strings_Join g off c (L.map bs) ⟨#[47]⟩ w (by
        intro j x hj
        have hj' : j < L.length := by
         have := (List.getElem?_eq_some_iff.1 hj).1; simpa using this
        rw [hcell j hj']
        simp [hj'] at hj
        simp [hj', hj]) hg (by simpa using hN) (by simpa using hc) (by
         have e1 : ((L.map bs).map (·.data.toList)) = L := by simp [bs_data, Function.comp_def]
         rw [e1]; show (Lib.join L [47]).length ≤ _; have := HJL.out; omega)
    have e1 : ((L.map bs).map (·.data.toList)) = L := by simp [bs_data, Function.comp_def]
    rw [e1, List.length_map] at h
    exact h
 go_enter Tryz.func213, Tryz.ntmps213
 go_wp2_with fail
 refine key.mono ?_
 rintro e w1 ⟨rfl, hx⟩
 have hlt := bs_size (Lib.join L [47])
 have hz : (bs (Lib.join L [47])).size ≤ 140737488355328 := by rw [hlt]; have := HJL.out; omega
 clear hlt
 go_wp2_with fail
 go_ret
 exact ⟨ret_str (by rw [← HJ.out]; exact bs_append [47] _), hx⟩
theorem keepS {a b : World} {p : Addr} {v : Value} (h : Ext a b) (hc : a.cell? p = some v) : Ext a b ∧ b.cell? p = some v := ⟨h, h.cell hc⟩
def parentL (l : List UInt8) : Option (List UInt8 × List UInt8) := match pathL l with
 | some (p :: q) => some (joinP ((p :: q).take q.length), (p :: q).getD q.length [])
 | _ => none
def ParentR (o : Option (List UInt8 × List UInt8)) (w : World) (e : Ending) (w' : World) : Prop :=
 match o with
 | none => e = .returned (.tuple #[.string (bs []), .string (bs []), .bool false]) ∧ Ext w w'
 | some (d, n) => e = .returned (.tuple #[.string (bs d), .string (bs n), .bool true]) ∧ Ext w w'
theorem path_parent (s : ByteArray) (w : World) (hE : Env w) :
 Calls Tryz.prog 186 #[.string s] w (ParentR (parentL s.data.toList) w) := by
 go_enter Tryz.func186, Tryz.ntmps186
 go_wp2_with fail
 cases hp : pathL s.data.toList with
 | none =>
   have HP := Lib.hid hp; clear hp
   refine (split_none _ hE HP.out).mono ?_
   rintro e w1 ⟨rfl, hx⟩
   go_wp2_with fail
   go_ret3
   have e1 : parentL s.data.toList = none := by simp [parentL, HP.out]
   rw [e1]; exact ⟨rfl, hx⟩
 | some L =>
   have HP := Lib.hid hp; clear hp
   refine (split_some _ hE HP.out).mono ?_
   rintro e w1 ⟨a, cap, rfl, hcap, hS, hx⟩
   cases L with
   | nil =>
     go_wp2_with fail
     go_ret3
     have e1 : parentL s.data.toList = none := by simp [parentL, HP.out]
     rw [e1]; exact ⟨rfl, hx⟩
   | cons p q =>
     have HF := Lib.hid (pathL_facts HP.out)
     have hq : q.length ≤ 4 := by have := HF.out.1; simp at this; omega
     have hcap' : q.length + 1 ≤ cap := hcap
     obtain ⟨g, off, rfl, hg, hcell⟩ := hS.at (by simp)
     have hc : w1.cell? ⟨g, off + q.length, none⟩ = some (.string (bs ((p :: q).getD q.length []))) := hcell q.length (by simp)
     obtain ⟨nm, hnm⟩ : ∃ nm, nm = (p :: q).getD q.length [] := ⟨_, rfl⟩
     rw [← hnm] at hc
     have HNM := Lib.hid hnm; clear hnm
     have hT : Strs w1 (some ⟨g, off, none⟩) ((p :: q).take q.length) := by
      refine Or.inr ⟨g, off, rfl, hg, fun i hi => ?_⟩
      have hi' : i < q.length := by simpa using hi
      rw [hcell i (by simp; omega)]
      congr 3
      simp only [List.getD, List.getElem?_take, if_pos hi']
     have hTl : ((p :: q).take q.length).length = q.length := by simp
     have hJl : (joinP ((p :: q).take q.length)).length ≤ 140737488355328 := by
      have h1 := joinP_len ((p :: q).take q.length)
      have h2 := glue_take_len 47 (p :: q) q.length
      have h3 := HF.out.2.2.1
      rcases HF.out.2.2.2 with ⟨_, h4⟩ | ⟨_, _, h4, _⟩
      · cases h4
      · rw [h4] at h2; omega
     have hj := fun w' (hx : Ext w1 w') => path_join (some ⟨g, off, none⟩) ((p :: q).take q.length) cap w' (hT.ext hx) (by omega) (by omega) hJl
     rw [hTl] at hj
     generalize hTT : (p :: q).take q.length = T at *
     have HTT := Lib.hid hTT; clear hTT
     have HT := Lib.hid hTl; clear hTl hcell hS
     have HJ := Lib.hid hj; clear hj
     clear hJl hT HF
     have b1 : (0 : Int) ≤ (q.length : Int) := by omega
     have b2 : (q.length : Int) ≤ (cap : Int) := by omega
     have b3 : (q.length : Int) < (q.length : Int) + 1 := by omega
     have b4 : q.length < q.length + 1 := by omega
     go_wp2_with fail
     go_region_held3 (fun w' => Ext w1 w' ∧ w'.cell? ⟨g, off + q.length, none⟩ = some (.string (bs nm))) (first | exact keepS (Ext.refl _).drew hc | assumption | go_keep)
      ((go_at_call 213; have hS0 := ‹Ext w1 _ ∧ World.cell? _ ⟨g, off + q.length, none⟩ = some (Value.string (bs nm))›; refine (HJ.out _ hS0.1).mono ?_; rintro e w2 ⟨rfl, hx2⟩; have hS2 := keepS (hS0.1.trans hx2) hc))
     go_wp2
     go_ret3
     have e1 : parentL s.data.toList = some (joinP T, nm) := by simp [parentL, HP.out, HNM.out, HTT.out]
     rw [e1]; exact ⟨rfl, hx.trans (by assumption : Ext w1 w2 ∧ _).1⟩
end Go.Proofs.YtefpllpichhojaaGreatDoor
namespace Go.Proofs.YtefpllpichhojaaGreatDoor
open Go.RowKit
end Go.Proofs.YtefpllpichhojaaGreatDoor
namespace Go.Proofs.YtefpllpichhojaaGreatDoor
end Go.Proofs.YtefpllpichhojaaGreatDoor
namespace Go.Proofs.YtefpllpichhojaaGreatDoor
end Go.Proofs.YtefpllpichhojaaGreatDoor
namespace Go.Proofs.YtefpllpichhojaaGreatDoor
def crc1 (x : BitVec 32) : BitVec 32 := if x.getLsbD 0 then (x >>> 1) ^^^ 0xEDB88320#32 else x >>> 1
def crcK : Nat → BitVec 32 → BitVec 32
 | 0, x => x
 | n + 1, x => crcK n (crc1 x)
def crc8 (x : BitVec 32) : BitVec 32 := crcK 8 x
def bv (b : UInt8) : BitVec 32 := BitVec.ofNat 32 b.toNat
def crcB (c : BitVec 32) (b : UInt8) : BitVec 32 := crc8 (c ^^^ bv b)
def crcF (c : BitVec 32) (l : List UInt8) : BitVec 32 := l.foldl crcB c
def crc0 : BitVec 32 := 0xFFFFFFFF#32
def crcL (l : List UInt8) : BitVec 32 := ~~~ (crcF crc0 l)
theorem crcF_append (s : BitVec 32) (a b : List UInt8) : crcF s (a ++ b) = crcF (crcF s a) b := by simp [crcF]
end Go.Proofs.YtefpllpichhojaaGreatDoor
namespace Go.Proofs.YtefpllpichhojaaGreatDoor
abbrev By := List UInt8
structure NeedD where
 name : By
 way : Int
 ver : By
structure FileD where
 path : By
 config : Bool
 data : By
structure PkgD where
 name : By
 ver : By
 needs : List NeedD
 conf : List By
 files : List FileD
 units : List By
theorem le32_num4 {n : Nat} (h : n < 4294967296) (l : By) : le32 (num4 n ++ l) = n := by
 simp only [le32, byteAt, num4, List.cons_append, List.nil_append, List.getD_cons_zero, List.getD_cons_succ, UInt8.toNat_ofNat']
 omega
theorem rNum_back {most n : Nat} (h : n ≤ most) (hn : n < 4294967296) (l : By) : rNum most (num4 n ++ l, false) = (n, (l, false)) := by
 have hl : ¬ (num4 n ++ l).length < 4 := by simp [num4_len]
 unfold rNum
 simp only [if_neg hl, le32_num4 hn, if_neg (show ¬ most < n by omega)]
 rfl
theorem nameL_12 {l : By} (h : nameL l = true) : l.length ≤ 12 := by
 unfold nameL at h
 simp only [Bool.and_eq_true, decide_eq_true_eq] at h
 omega
structure RdPk where
 p : PkgD
 ok : Bool
end Go.Proofs.YtefpllpichhojaaGreatDoor
namespace Go.Proofs.YtefpllpichhojaaGreatDoor
open Go.RowKit
theorem sorted_names {D : DataW Value} {w : World} {b n : Nat} {f : By → Option Value} (h1 : w.ownsMap Tryz.prog 9 selfR b n D) (h3 : ∀ x, Maps.has D (keyS x) = (f x).isSome) {ss : List By} (hp : ss.Perm (strKeys D)) :
 (ss.mergeSort leB).Pairwise (fun x y => x ≤ y) ∧ (ss.mergeSort leB).Nodup ∧ ∀ x, x ∈ ss.mergeSort leB ↔ (f x).isSome = true := by
 obtain ⟨es, hD, hpw, _⟩ := h1.entries str_keyed
 obtain ⟨es', hD', hko⟩ := h1.keysOf
 obtain rfl : es = es' := by rw [hD] at hD'; simpa using hD'
 subst hD
 have hk : ∀ p ∈ es, ∃ x, p.1 = .string x := fun p hp => by obtain ⟨v, hv⟩ := hko p hp; obtain ⟨x, _, hx, _⟩ := Maps.keyOf_str Tryz.underlying9 hv; exact ⟨x, hx⟩
 have tr : ∀ a b c : List UInt8, leB a b = true → leB b c = true → leB a c = true := fun a b c h1 h2 => by simp only [leB, decide_eq_true_eq] at *; exact List.le_trans h1 h2
 have tot : ∀ a b : List UInt8, (leB a b || leB b a) = true := fun a b => by simp only [leB, Bool.or_eq_true, decide_eq_true_eq]; exact List.le_total a b
 have hs := List.pairwise_mergeSort tr tot ss
 have hm : (ss.mergeSort leB).Perm (strKeys (.map es)) := (List.mergeSort_perm ss _).trans hp
 have hnd : (strKeys (.map es)).Nodup := by
  show (es.map fun p => strOf p.1).Nodup
  refine List.pairwise_map.2 (List.Pairwise.imp_of_mem (fun {p q} hp' hq' hne e => hne ?_) hpw)
  obtain ⟨a, ha⟩ := hk p hp'
  obtain ⟨b, hb⟩ := hk q hq'
  rw [ha, hb] at e ⊢
  exact congrArg _ e
 refine ⟨List.Pairwise.imp (fun {a b} h => by simpa [leB] using h) hs, hm.nodup_iff.2 hnd, fun x => ?_⟩
 rw [hm.mem_iff, ← h3 x]
 show x ∈ es.map (fun p => strOf p.1) ↔ Maps.has (.map es) (.string x) = true
 rw [Maps.has_eq, List.any_eq_true, List.mem_map]
 constructor
 · rintro ⟨p, hp', rfl⟩
   obtain ⟨a, ha⟩ := hk p hp'
   exact ⟨p, hp', by rw [ha]; simp [Lit.sameKey, strOf]⟩
 · rintro ⟨p, hp', hs⟩
   obtain ⟨a, ha⟩ := hk p hp'
   rw [ha] at hs
   exact ⟨p, hp', by rw [ha]; simpa [Lit.sameKey, strOf] using hs⟩
theorem MapF.size_names {w : World} {b n : Nat} {f : By → Option Value} (h : MapF keyS w 9 b n f) {ss : List By} (hn : ss.Nodup) (hs : ∀ x, x ∈ ss ↔ (f x).isSome = true) (ty : TypeId) {t e : TypeId} (ht : Tryz.prog.underlying t = some (.map 9 e)) :
 (Builtin.len_ #[t] ty #[.map (some b)]).run Tryz.prog w = .ok (.int .i64 ss.length) w := by
 obtain ⟨D, h1, _, h3⟩ := h
 rw [h1.len ht ty]
 obtain ⟨_, hnd, hmem⟩ := sorted_names h1 (fun x => (h3 x).2) (List.Perm.refl (strKeys D))
 have hp : ((strKeys D).mergeSort leB).Perm ss := (List.perm_ext_iff_of_nodup hnd hn).2 fun x => by rw [hmem, hs]
 have h4 := hp.length_eq
 rw [(List.mergeSort_perm _ leB).length_eq] at h4
 obtain ⟨es, hD, _⟩ := h1.entries str_keyed
 have h5 : Maps.size D = (strKeys D).length := by
  subst hD
  rw [Maps.size_eq]
  show es.length = (es.map fun p => strOf p.1).length
  simp
 rw [h5, h4]
end Go.Proofs.YtefpllpichhojaaGreatDoor
