/- Several texts of mine, one behind the other: Shelf, PathSplit, PathMore, PathWithin, NumSpec, VerSpec, CrcSpec, ArcSpec, MapKeys, Rec. -/
import Derived.Shelf.Strings.Builder1
import Derived.Shelf.Strings.Builder2
import Derived.Shelf.Strings.OnBuilder
import Derived.Shelf.Small.Bits
import Derived.Shelf.Strings.BuilderF
import Derived.Shelf.Strings.BuilderK
import Derived.Shelf.Strconv.Itoa0
import Derived.Shelf.Strings.Search1
import Derived.Shelf.Strings.Search2
import Derived.Shelf.Strings.Search3
import Derived.Shelf.Strings.Count
import Derived.Shelf.LaysM
import Derived.Shelf.Strings.Shaped
import Derived.Shelf.Strings.Prefix
import Derived.Shelf.Strings.Split
import Derived.Shelf.Strings.SplitShaped
import Derived.Shelf.Unicode.DecodeSlow
import Derived.Shelf.Slices.Turned
import Derived.Ground.Names2Prog
import Derived.Shelf.Slices.Delete
import Derived.Shelf.Slices.Cells
import Derived.Ground.SlgnProg
import Derived.Shelf.SlicesE.Index
import Derived.Shelf.SlicesE.Delete
import Derived.Shelf.SlicesE.Clone
import Derived.Ground.SlgfProg
import Derived.Shelf.SlicesE.IndexFunc
import Derived.Shelf.SlicesE.DeleteFunc
import Derived.Ground.SlgmProg
import Derived.Shelf.SortM.Plain
import Derived.Shelf.SortM.SortNone
import Derived.Test.YtachelbodpfckaaGreatDoorProg
import Derived.Shelf.SlMaps.Clone
import Derived.Ground.SlmcProg
import Derived.Shelf.SlIterI.Nil
import Derived.Shelf.SlIterI.Sorted
import Derived.Ground.GgzProg
import Derived.Shelf.SlIter.Nil
import Derived.Test.YtachelbodpfckaaGreatDoorM1
import Derived.WalkSpells
import Derived.WalkLawsBesides
import Derived.BigGuardPart
import Derived.Deep.RegionHeld3
import Derived.StillTailTactics
import Derived.BigQuiet
import Derived.Deep.QuietTactic
import Derived.Lib.AtoiAll
import Derived.Lib.ItoaNum
import Derived.Lib.IndexMore
import Derived.KernelRfl
import Derived.Sort.KeysCollected
namespace Go.Proofs
open Go.Shelf
def Tryz.lays156_ren : Go.Shelf.Ren := ⟨fun | 156 => 145 | 165 => 160 | 166 => 161 | 169 => 162 | 240 => 169 | 241 => 170 | 276 => 172 | 277 => 173 | n => n, fun | 31 => 29 | 9 => 9 | 3 => 3 | 4 => 4 | 0 => 0 | 20 => 20 | 72 => 216 | 76 => 220 | 70 => 214 | 37 => 64 | 75 => 219 | 127 => 231 | 164 => 233 | 5 => 5 | 80 => 222 | n => n, fun | n => n⟩
theorem Tryz.lays156 : Go.Proofs.Lays.n156 Tryz.prog Tryz.lays156_ren := {
 mixed := by kernel_rfl
 f156 := Tryz.func145.trans (congrArg some (by kernel_rfl))
 f165 := Tryz.func160.trans (congrArg some (by kernel_rfl))
 f166 := Tryz.func161.trans (congrArg some (by kernel_rfl))
 f169 := Tryz.func162.trans (congrArg some (by kernel_rfl))
 f240 := Tryz.func169.trans (congrArg some (by kernel_rfl))
 f241 := Tryz.func170.trans (congrArg some (by kernel_rfl))
 f276 := Tryz.func172.trans (congrArg some (by kernel_rfl))
 f277 := Tryz.func173.trans (congrArg some (by kernel_rfl))
 t0 := Tryz.underlying0
 a0 := Tryz.isAgg0
 z0 := Tryz.sizeOf0
 v0 := Tryz.zeroValue0
 t3 := Tryz.underlying3
 a3 := Tryz.isAgg3
 z3 := Tryz.sizeOf3
 v3 := Tryz.zeroValue3
 t4 := Tryz.underlying4
 a4 := Tryz.isAgg4
 z4 := Tryz.sizeOf4
 v4 := Tryz.zeroValue4
 t9 := Tryz.underlying9
 a9 := Tryz.isAgg9
 z9 := Tryz.sizeOf9
 v9 := Tryz.zeroValue9
 t20 := Tryz.underlying20
 a20 := Tryz.isAgg20
 z20 := Tryz.sizeOf20
 v20 := Tryz.zeroValue20
 t31 := Tryz.underlying29
 a31 := Tryz.isAgg29
 z31 := Tryz.sizeOf29
 v31 := Tryz.zeroValue29
 t37 := Tryz.underlying64
 a37 := Tryz.isAgg64
 z37 := Tryz.sizeOf64
 v37 := Tryz.zeroValue64
 t70 := Tryz.underlying214
 a70 := Tryz.isAgg214
 z70 := Tryz.sizeOf214
 v70 := Tryz.zeroValue214
 t72 := Tryz.underlying216
 a72 := Tryz.isAgg216
 z72 := Tryz.sizeOf216
 v72 := Tryz.zeroValue216
 t75 := Tryz.underlying219
 a75 := Tryz.isAgg219
 z75 := Tryz.sizeOf219
 v75 := Tryz.zeroValue219
 t76 := Tryz.underlying220
 a76 := Tryz.isAgg220
 z76 := Tryz.sizeOf220
 v76 := Tryz.zeroValue220
 t127 := Tryz.underlying231
 a127 := Tryz.isAgg231
 z127 := Tryz.sizeOf231
 v127 := Tryz.zeroValue231
 t164 := Tryz.underlying233
 a164 := Tryz.isAgg233
 z164 := Tryz.sizeOf233
 v164 := Tryz.zeroValue233 }
theorem Tryz.Builder_Extra_156 : Builder.Extra Tryz.prog Tryz.lays156_ren := {
 sizeBuilder := by kernel_rfl
 liesBuilder := by kernel_rfl
 t5 := Tryz.underlying5
 a5 := Tryz.isAgg5
 z5 := Tryz.sizeOf5
 v5 := Tryz.zeroValue5
 infoByte := by kernel_rfl
 cellsByte := by kernel_rfl
 sizeByte := by kernel_rfl
 neB5 := by decide }
open Go.RowKit in
theorem Tryz.strings_Join_none (a : Option Addr) (c : Nat) (sep : ByteArray) (w : World) :
 Calls Tryz.prog 145 #[.slice a 0 c, .string sep] w fun e w' => e = .returned (.string ⟨#[]⟩) ∧ w' = w := Any.strings_Join_none Tryz.lays156 Tryz.Builder_Extra_156 a c sep w
open Go.RowKit in
theorem Tryz.strings_Join (bk o c : Nat) (xs : List ByteArray) (sep : ByteArray) (w : World) (hcells : ∀ (j : Nat) x, xs[j]? = some x → w.cell? ⟨bk, o + j, none⟩ = some (.string x)) (hbk : bk < w.heap.size) (hN : xs.length ≤ 140737488355328) (hcap : xs.length ≤ c) (hlen : (Lib.join (xs.map (·.data.toList)) sep.data.toList).length ≤ 140737488355328) :
 Calls Tryz.prog 145 #[.slice (some ⟨bk, o, none⟩) xs.length c, .string sep] w fun e w' => e = .returned (.string ⟨(Lib.join (xs.map (·.data.toList)) sep.data.toList).toArray⟩) ∧ Below w.heap.size w w' := Any.strings_Join Tryz.lays156 Tryz.Builder_Extra_156 bk o c xs sep w hcells hbk hN hcap hlen
def Tryz.lays99_ren : Go.Shelf.Ren := ⟨fun | 99 => 87 | 206 => 108 | n => n, fun | 9 => 9 | 4 => 4 | 3 => 3 | n => n, fun | n => n⟩
theorem Tryz.lays99 : Go.Proofs.Lays.n99 Tryz.prog Tryz.lays99_ren := {
 mixed := by kernel_rfl
 f99 := Tryz.func87.trans (congrArg some (by kernel_rfl))
 f206 := Tryz.func108.trans (congrArg some (by kernel_rfl))
 t3 := Tryz.underlying3
 a3 := Tryz.isAgg3
 z3 := Tryz.sizeOf3
 v3 := Tryz.zeroValue3
 t4 := Tryz.underlying4
 a4 := Tryz.isAgg4
 z4 := Tryz.sizeOf4
 v4 := Tryz.zeroValue4
 t9 := Tryz.underlying9
 a9 := Tryz.isAgg9
 z9 := Tryz.sizeOf9
 v9 := Tryz.zeroValue9 }
open Go.RowKit Go.Lib in
theorem Tryz.strings_HasPrefix (s p : ByteArray) (w : World) :
 Calls Tryz.prog 87 #[.string s, .string p] w fun e w' => e = .returned (.bool (Lib.hasPrefix s.data.toList p.data.toList)) ∧ w' = w := Any.strings_HasPrefix Tryz.lays99 s p w
def Tryz.laysM146_ren : Go.Shelf.Ren := ⟨fun | 146 => 88 | 221 => 109 | 268 => 128 | 138 => 129 | 143 => 130 | 195 => 140 | 197 => 141 | 218 => 142 | 219 => 143 | 260 => 155 | 217 => 156 | 225 => 157 | 224 => 158 | 267 => 159 | 266 => 167 | 314 => 168 | n => n, fun | 9 => 9 | 31 => 29 | 3 => 3 | 4 => 4 | 0 => 0 | 105 => 203 | 21 => 21 | 5 => 5 | 46 => 33 | 119 => 225 | 139 => 228 | 138 => 227 | 146 => 229 | 51 => 162 | n => n, fun | 1 => 0 | 3 => 1 | 4 => 2 | n => n⟩
theorem Tryz.laysM146 : Go.Proofs.LaysM.n146 Tryz.prog Tryz.laysM146_ren := {
 mixed := by kernel_rfl
 f138 := Tryz.func129.trans (congrArg some (by kernel_rfl))
 f143 := Tryz.func130.trans (congrArg some (by kernel_rfl))
 f146 := Tryz.func88.trans (congrArg some (by kernel_rfl))
 f195 := Tryz.func140.trans (congrArg some (by kernel_rfl))
 f197 := Tryz.func141.trans (congrArg some (by kernel_rfl))
 f217 := Tryz.func156.trans (congrArg some (by kernel_rfl))
 f218 := Tryz.func142.trans (congrArg some (by kernel_rfl))
 f219 := Tryz.func143.trans (congrArg some (by kernel_rfl))
 f221 := Tryz.func109.trans (congrArg some (by kernel_rfl))
 f224 := Tryz.func158.trans (congrArg some (by kernel_rfl))
 f225 := Tryz.func157.trans (congrArg some (by kernel_rfl))
 f260 := Tryz.func155.trans (congrArg some (by kernel_rfl))
 f266 := Tryz.func167.trans (congrArg some (by kernel_rfl))
 f267 := Tryz.func159.trans (congrArg some (by kernel_rfl))
 f268 := Tryz.func128.trans (congrArg some (by kernel_rfl))
 f314 := Tryz.func168.trans (congrArg some (by kernel_rfl))
 t0 := Tryz.underlying0
 a0 := Tryz.isAgg0
 z0 := Tryz.sizeOf0
 v0 := Tryz.zeroValue0
 t3 := Tryz.underlying3
 a3 := Tryz.isAgg3
 z3 := Tryz.sizeOf3
 v3 := Tryz.zeroValue3
 t4 := Tryz.underlying4
 a4 := Tryz.isAgg4
 z4 := Tryz.sizeOf4
 v4 := Tryz.zeroValue4
 t5 := Tryz.underlying5
 a5 := Tryz.isAgg5
 z5 := Tryz.sizeOf5
 v5 := Tryz.zeroValue5
 t9 := Tryz.underlying9
 a9 := Tryz.isAgg9
 z9 := Tryz.sizeOf9
 v9 := Tryz.zeroValue9
 t21 := Tryz.underlying21
 a21 := Tryz.isAgg21
 z21 := Tryz.sizeOf21
 v21 := Tryz.zeroValue21
 t31 := Tryz.underlying29
 a31 := Tryz.isAgg29
 z31 := Tryz.sizeOf29
 v31 := Tryz.zeroValue29
 t46 := Tryz.underlying33
 a46 := Tryz.isAgg33
 z46 := Tryz.sizeOf33
 v46 := Tryz.zeroValue33
 t51 := Tryz.underlying162
 a51 := Tryz.isAgg162
 z51 := Tryz.sizeOf162
 v51 := Tryz.zeroValue162
 t105 := Tryz.underlying203
 a105 := Tryz.isAgg203
 z105 := Tryz.sizeOf203
 v105 := Tryz.zeroValue203
 t119 := Tryz.underlying225
 a119 := Tryz.isAgg225
 z119 := Tryz.sizeOf225
 t138 := Tryz.underlying227
 a138 := Tryz.isAgg227
 z138 := Tryz.sizeOf227
 v138 := Tryz.zeroValue227
 t139 := Tryz.underlying228
 a139 := Tryz.isAgg228
 z139 := Tryz.sizeOf228
 v139 := Tryz.zeroValue228
 t146 := Tryz.underlying229
 a146 := Tryz.isAgg229
 z146 := Tryz.sizeOf229
 v146 := Tryz.zeroValue229
 g1 := by kernel_rfl
 g3 := by kernel_rfl
 g4 := by kernel_rfl
 i0 := by kernel_rfl
 i3 := by kernel_rfl
 i4 := by kernel_rfl
 i5 := by kernel_rfl
 i9 := by kernel_rfl
 i21 := by kernel_rfl
 i31 := by kernel_rfl
 i46 := by kernel_rfl
 i51 := by kernel_rfl
 i105 := by kernel_rfl
 i138 := by kernel_rfl
 i139 := by kernel_rfl
 i146 := by kernel_rfl
 m1 := by kernel_rfl
 s1_3 := fun w h => Go.Proofs.cell_of_shapedOpen_int (zero := #[.int .i64 0]) (t := 3) h (of_decide_eq_true (by kernel_rfl)) (by kernel_rfl) rfl (by kernel_rfl) (by kernel_rfl) Tryz.underlying3
 m3 := by kernel_rfl
 m4 := by kernel_rfl }
open Go.RowKit Go.Lib in
open Go.Lib in
open Go.Lib in
open Go.RowKit Go.Lib Go.Sort in
open Go.RowKit Go.Lib Go.Sort in
open Go.Sort Go.RowKit in
open Go.RowKit Go.Sort in
def Tryz.mclone_string_int_ren : Go.Shelf.Ren := ⟨fun | 5 => 54 | 7 => 93 | n => n, fun | 23 => 28 | 25 => 9 | 3 => 3 | 4 => 4 | 20 => 20 | n => n, fun | n => n⟩
theorem Tryz.mclone_string_int : Go.Proofs.SlLaysW.n5 Tryz.prog Tryz.mclone_string_int_ren := {
 mixed := by kernel_rfl
 f5 := ⟨Tryz.f54.name, by decide, Tryz.func54.trans (congrArg some (by kernel_rfl))⟩
 f7 := Tryz.func93.trans (congrArg some (by kernel_rfl))
 t4 := Tryz.underlying4
 a4 := Tryz.isAgg4
 z4 := Tryz.sizeOf4
 v4 := Tryz.zeroValue4
 t20 := Tryz.underlying20
 a20 := Tryz.isAgg20
 z20 := Tryz.sizeOf20
 v20 := Tryz.zeroValue20
 t23 := Tryz.underlying28
 a23 := Tryz.isAgg28
 z23 := Tryz.sizeOf28
 v23 := Tryz.zeroValue28 }
def Tryz.keysI_proc_Proc_ren : Go.Shelf.Ren := ⟨fun | 7 => 33 | 10 => 53 | n => n, fun | 23 => 77 | 26 => 3 | 3 => 80 | 28 => 86 | 0 => 0 | 27 => 85 | 33 => 119 | 4 => 4 | n => n, fun | n => n⟩
theorem Tryz.keysI_proc_Proc : Go.Proofs.SlLaysZI.n7 Tryz.prog Tryz.keysI_proc_Proc_ren := {
 mixed := by kernel_rfl
 f7 := ⟨Tryz.f33.name, by decide, Tryz.func33.trans (congrArg some (by kernel_rfl))⟩
 f10 := ⟨Tryz.f53.name, by decide, Tryz.func53.trans (congrArg some (by kernel_rfl))⟩
 t0 := Tryz.underlying0
 a0 := Tryz.isAgg0
 z0 := Tryz.sizeOf0
 v0 := Tryz.zeroValue0
 t4 := Tryz.underlying4
 a4 := Tryz.isAgg4
 z4 := Tryz.sizeOf4
 v4 := Tryz.zeroValue4
 t23 := Tryz.underlying77
 a23 := Tryz.isAgg77
 z23 := Tryz.sizeOf77
 v23 := Tryz.zeroValue77
 t26 := Tryz.underlying3
 a26 := Tryz.isAgg3
 z26 := Tryz.sizeOf3
 v26 := Tryz.zeroValue3
 t27 := Tryz.underlying85
 a27 := Tryz.isAgg85
 z27 := Tryz.sizeOf85
 v27 := Tryz.zeroValue85
 t28 := Tryz.underlying86
 a28 := Tryz.isAgg86
 z28 := Tryz.sizeOf86
 v28 := Tryz.zeroValue86
 t33 := Tryz.underlying119
 a33 := Tryz.isAgg119
 z33 := Tryz.sizeOf119
 v33 := Tryz.zeroValue119 }
def Tryz.deletefunc_int_ren : Go.Shelf.Ren := ⟨fun | 10 => 69 | 6 => 105 | n => n, fun | 22 => 22 | 23 => 3 | 25 => 119 | 3 => 3 | 4 => 4 | 0 => 0 | n => n, fun | n => n⟩
theorem Tryz.deletefunc_int : Go.Proofs.SlLaysH.n10 Tryz.prog Tryz.deletefunc_int_ren := {
 mixed := by kernel_rfl
 f6 := ⟨Tryz.f105.name, by decide, Tryz.func105.trans (congrArg some (by kernel_rfl))⟩
 f10 := ⟨Tryz.f69.name, by decide, Tryz.func69.trans (congrArg some (by kernel_rfl))⟩
 t0 := Tryz.underlying0
 a0 := Tryz.isAgg0
 z0 := Tryz.sizeOf0
 v0 := Tryz.zeroValue0
 t3 := Tryz.underlying3
 a3 := Tryz.isAgg3
 z3 := Tryz.sizeOf3
 v3 := Tryz.zeroValue3
 t4 := Tryz.underlying4
 a4 := Tryz.isAgg4
 z4 := Tryz.sizeOf4
 v4 := Tryz.zeroValue4
 t22 := Tryz.underlying22
 a22 := Tryz.isAgg22
 z22 := Tryz.sizeOf22
 v22 := Tryz.zeroValue22
 a23 := Tryz.isAgg3
 z23 := Tryz.sizeOf3
 t25 := Tryz.underlying119
 a25 := Tryz.isAgg119
 z25 := Tryz.sizeOf119
 v25 := Tryz.zeroValue119 }
def Tryz.sort_int_ren : Go.Shelf.Ren := ⟨fun | 5 => 52 | 8 => 92 | 7 => 91 | 19 => 120 | 20 => 121 | 10 => 111 | 11 => 112 | 12 => 113 | 13 => 114 | 14 => 115 | 15 => 116 | 16 => 117 | 17 => 118 | 18 => 119 | 30 => 131 | 31 => 132 | 32 => 133 | 33 => 134 | 34 => 135 | 35 => 136 | 40 => 144 | n => n, fun | 23 => 22 | 25 => 3 | 3 => 3 | 32 => 33 | 22 => 22 | 0 => 0 | 44 => 162 | 46 => 106 | 4 => 4 | 36 => 180 | 35 => 179 | 41 => 37 | 5 => 5 | 9 => 9 | 53 => 194 | 57 => 198 | 63 => 206 | 64 => 56 | n => n, fun | n => n⟩
theorem Tryz.sort_int : Go.Proofs.SlLaysM.n5 Tryz.prog Tryz.sort_int_ren := {
 mixed := by kernel_rfl
 f5 := ⟨Tryz.f52.name, by decide, Tryz.func52.trans (congrArg some (by kernel_rfl))⟩
 f7 := ⟨Tryz.f91.name, by decide, Tryz.func91.trans (congrArg some (by kernel_rfl))⟩
 f8 := Tryz.func92.trans (congrArg some (by kernel_rfl))
 f10 := ⟨Tryz.f111.name, by decide, Tryz.func111.trans (congrArg some (by kernel_rfl))⟩
 f11 := ⟨Tryz.f112.name, by decide, Tryz.func112.trans (congrArg some (by kernel_rfl))⟩
 f12 := ⟨Tryz.f113.name, by decide, Tryz.func113.trans (congrArg some (by kernel_rfl))⟩
 f13 := ⟨Tryz.f114.name, by decide, Tryz.func114.trans (congrArg some (by kernel_rfl))⟩
 f14 := ⟨Tryz.f115.name, by decide, Tryz.func115.trans (congrArg some (by kernel_rfl))⟩
 f15 := ⟨Tryz.f116.name, by decide, Tryz.func116.trans (congrArg some (by kernel_rfl))⟩
 f16 := ⟨Tryz.f117.name, by decide, Tryz.func117.trans (congrArg some (by kernel_rfl))⟩
 f17 := ⟨Tryz.f118.name, by decide, Tryz.func118.trans (congrArg some (by kernel_rfl))⟩
 f18 := ⟨Tryz.f119.name, by decide, Tryz.func119.trans (congrArg some (by kernel_rfl))⟩
 f19 := Tryz.func120.trans (congrArg some (by kernel_rfl))
 f20 := Tryz.func121.trans (congrArg some (by kernel_rfl))
 f30 := ⟨Tryz.f131.name, by decide, Tryz.func131.trans (congrArg some (by kernel_rfl))⟩
 f31 := Tryz.func132.trans (congrArg some (by kernel_rfl))
 f32 := Tryz.func133.trans (congrArg some (by kernel_rfl))
 f33 := ⟨Tryz.f134.name, by decide, Tryz.func134.trans (congrArg some (by kernel_rfl))⟩
 f34 := ⟨Tryz.f135.name, by decide, Tryz.func135.trans (congrArg some (by kernel_rfl))⟩
 f35 := ⟨Tryz.f136.name, by decide, Tryz.func136.trans (congrArg some (by kernel_rfl))⟩
 f40 := ⟨Tryz.f144.name, by decide, Tryz.func144.trans (congrArg some (by kernel_rfl))⟩
 t0 := Tryz.underlying0
 a0 := Tryz.isAgg0
 z0 := Tryz.sizeOf0
 v0 := Tryz.zeroValue0
 t3 := Tryz.underlying3
 a3 := Tryz.isAgg3
 z3 := Tryz.sizeOf3
 v3 := Tryz.zeroValue3
 t4 := Tryz.underlying4
 a4 := Tryz.isAgg4
 z4 := Tryz.sizeOf4
 v4 := Tryz.zeroValue4
 t5 := Tryz.underlying5
 a5 := Tryz.isAgg5
 z5 := Tryz.sizeOf5
 v5 := Tryz.zeroValue5
 t9 := Tryz.underlying9
 a9 := Tryz.isAgg9
 z9 := Tryz.sizeOf9
 v9 := Tryz.zeroValue9
 t22 := Tryz.underlying22
 a22 := Tryz.isAgg22
 z22 := Tryz.sizeOf22
 v22 := Tryz.zeroValue22
 t23 := Tryz.underlying22
 a23 := Tryz.isAgg22
 z23 := Tryz.sizeOf22
 v23 := Tryz.zeroValue22
 t25 := Tryz.underlying3
 a25 := Tryz.isAgg3
 z25 := Tryz.sizeOf3
 v25 := Tryz.zeroValue3
 t32 := Tryz.underlying33
 a32 := Tryz.isAgg33
 z32 := Tryz.sizeOf33
 v32 := Tryz.zeroValue33
 t35 := Tryz.underlying179
 a35 := Tryz.isAgg179
 z35 := Tryz.sizeOf179
 v35 := Tryz.zeroValue179
 t36 := Tryz.underlying180
 a36 := Tryz.isAgg180
 z36 := Tryz.sizeOf180
 v36 := Tryz.zeroValue180
 t41 := Tryz.underlying37
 a41 := Tryz.isAgg37
 z41 := Tryz.sizeOf37
 v41 := Tryz.zeroValue37
 t44 := Tryz.underlying162
 a44 := Tryz.isAgg162
 z44 := Tryz.sizeOf162
 v44 := Tryz.zeroValue162
 t46 := Tryz.underlying106
 a46 := Tryz.isAgg106
 z46 := Tryz.sizeOf106
 v46 := Tryz.zeroValue106
 t53 := Tryz.underlying194
 a53 := Tryz.isAgg194
 z53 := Tryz.sizeOf194
 v53 := Tryz.zeroValue194
 t57 := Tryz.underlying198
 a57 := Tryz.isAgg198
 z57 := Tryz.sizeOf198
 v57 := Tryz.zeroValue198
 t63 := Tryz.underlying206
 a63 := Tryz.isAgg206
 z63 := Tryz.sizeOf206
 v63 := Tryz.zeroValue206
 t64 := Tryz.underlying56
 a64 := Tryz.isAgg56
 z64 := Tryz.sizeOf56
 v64 := Tryz.zeroValue56 }
def Tryz.sorted_int_ren : Go.Shelf.Ren := ⟨fun | 6 => 32 | 8 => 51 | 9 => 52 | 11 => 90 | 13 => 92 | 12 => 91 | 23 => 120 | 24 => 121 | 14 => 111 | 15 => 112 | 16 => 113 | 17 => 114 | 18 => 115 | 19 => 116 | 20 => 117 | 21 => 118 | 22 => 119 | 25 => 131 | 26 => 132 | 27 => 133 | 28 => 134 | 29 => 135 | 30 => 136 | 31 => 144 | n => n, fun | 26 => 3 | 28 => 86 | 24 => 22 | 0 => 0 | 3 => 3 | 37 => 33 | 48 => 162 | 50 => 106 | 4 => 4 | 40 => 180 | 39 => 179 | 45 => 37 | 5 => 5 | 9 => 9 | 51 => 194 | 55 => 198 | 57 => 206 | 58 => 56 | 33 => 119 | n => n, fun | n => n⟩
theorem Tryz.sorted_int : Go.Proofs.SlLaysZI.n6 Tryz.prog Tryz.sorted_int_ren := {
 mixed := by kernel_rfl
 f6 := ⟨Tryz.f32.name, by decide, Tryz.func32.trans (congrArg some (by kernel_rfl))⟩
 f8 := ⟨Tryz.f51.name, by decide, Tryz.func51.trans (congrArg some (by kernel_rfl))⟩
 f11 := ⟨Tryz.f90.name, by decide, Tryz.func90.trans (congrArg some (by kernel_rfl))⟩
 t0 := Tryz.underlying0
 a0 := Tryz.isAgg0
 z0 := Tryz.sizeOf0
 v0 := Tryz.zeroValue0
 t24 := Tryz.underlying22
 a24 := Tryz.isAgg22
 z24 := Tryz.sizeOf22
 v24 := Tryz.zeroValue22
 t26 := Tryz.underlying3
 a26 := Tryz.isAgg3
 z26 := Tryz.sizeOf3
 v26 := Tryz.zeroValue3
 t28 := Tryz.underlying86
 a28 := Tryz.isAgg86
 z28 := Tryz.sizeOf86
 v28 := Tryz.zeroValue86
 i26 := by kernel_rfl }
end Go.Proofs
namespace Go.Proofs.YtachelbodpfckaaGreatDoor
open Go.RowKit
theorem hasPrefix_head (l : List UInt8) (c : UInt8) : Lib.hasPrefix l [c] = decide (l.head? = some c) := by
 cases l with
 | nil => simp [Lib.hasPrefix]
 | cons x r =>
   rw [Bool.eq_iff_iff]; simp [Lib.hasPrefix, List.isPrefixOf]; exact eq_comm
theorem split_tail (s : ByteArray) (w : World) (hE : Env w) (h1 : 1 ≤ s.size) (hs : s.size ≤ 40) :
 Calls Tryz.prog 88 #[.string (s.extract 1 s.size), .string ⟨#[47]⟩] w fun e w' =>
  e = .returned (.slice (some ⟨w.heap.size, 0, none⟩) (splitOn 47 s.data.toList.tail).length (splitOn 47 s.data.toList.tail).length) ∧
    w.alloc (.cells (((splitOn 47 s.data.toList.tail).map bs).map Value.string).toArray 9) = w' := by
 have e1 : s.extract 1 s.size = bs s.data.toList.tail := by
  rw [extract_bs]; congr 1
  rw [List.take_of_length_le (by simp)]; simp
 obtain ⟨m, hm⟩ := hE.cell
 have h := Any.strings_Split { Tryz.laysM146 with } Tryz.laysM146.i9 (bs s.data.toList.tail) (bs [47]) m w (by rw [bs_size]; simp; omega) hm (by rw [bs_size]; simp)
 rw [splitB_on, countB_on, bs_data] at h
 rw [e1]
 exact h.mono fun e w' ⟨he, hw⟩ => ⟨he, hw.symm⟩
def SplitR (o : Option (List (List UInt8))) (w : World) (e : Ending) (w' : World) : Prop :=
 match o with
 | none => e = .returned (.tuple #[.slice none 0 0, .bool false]) ∧ Ext w w'
 | some L => ∃ a cap, e = .returned (.tuple #[.slice a L.length cap, .bool true]) ∧ L.length ≤ cap ∧ Strs w' a L ∧ Ext w w'
theorem toList_root {s : ByteArray} (h : (s.toList == [47]) = true) : s.data.toList = [47] := by
 have h := beq_iff_eq.1 h; rwa [ByteArray.toList_eq] at h
theorem toList_not {s : ByteArray} {l : List UInt8} (h : (s.toList == l) = false) : s.data.toList ≠ l := by
 have h := beq_eq_false_iff_ne.1 h; rwa [ByteArray.toList_eq] at h
theorem head_size {s : ByteArray} {c : UInt8} (h : s.data.toList.head? = some c) : 1 ≤ s.size := by
 cases hs : s.data.toList with
 | nil => rw [hs] at h; cases h
 | cons x r => rw [← size_len, hs]; simp
set_option maxHeartbeats 400000 in
theorem path_split (s : ByteArray) (w : World) (hE : Env w) :
 Calls Tryz.prog 50 #[.string s] w (SplitR (pathL s.data.toList) w) := by
 go_enter Tryz.func50, Tryz.ntmps50
 go_wp2_with fail
 · go_ret2; rw [toList_root ‹_›, pathL_root]; exact ⟨none, 0, rfl, Nat.le_refl _, Strs.nil _ _, Ext.refl _⟩
 · go_ret2; rw [pathL_long (by rw [size_len]; omega)]; exact ⟨rfl, Ext.refl _⟩
 · have hn := Lib.hid (toList_not (s := s) (l := [47]) ‹_›)
   refine (Tryz.strings_HasPrefix _ _ _).mono ?_
   rintro e w' ⟨rfl, rfl⟩
   rw [show (({ data := #[47] } : ByteArray).data.toList) = [47] from rfl, hasPrefix_head]
   cases hh : decide (s.data.toList.head? = some 47) with
   | false =>
     have HH := Lib.hid (of_decide_eq_false hh); clear hh
     go_wp2_with fail
     go_ret2; rw [pathL_head hn.out HH.out]; exact ⟨rfl, Ext.refl _⟩
   | true =>
     have HH := Lib.hid (of_decide_eq_true hh); clear hh
     have h1 := head_size HH.out
     go_wp2_with fail
     refine (split_tail s _ hE h1 (by omega)).mono ?_
     rintro e w1 ⟨rfl, hw1⟩
     have hx : Ext w' w1 := by rw [← hw1]; exact Ext.alloc _ _
     have hS : Strs w1 (some ⟨w'.heap.size, 0, none⟩) (splitOn 47 s.data.toList.tail) := by rw [← hw1]; exact Strs.made _ _ _
     have hL1 := splitOn_length_pos 47 s.data.toList.tail
     clear hw1
     generalize hL : splitOn 47 s.data.toList.tail = L at *
     have HL := Lib.hid hL; clear hL
     have HS := Lib.hid hS; clear hS
     by_cases h5 : 5 < L.length
     · go_wp2_with fail
       go_ret2; rw [pathL_many hn.out (by rw [HL.out]; exact h5)]; exact ⟨rfl, hx⟩
     · go_wp2_with fail
       go_loopw [25] (fun i wr => ∃ k : Nat, k ≤ L.length ∧ i = .int .i64 k ∧ Hid ((L.take k).all nameL = true) ∧ Ext w1 wr) (fun i _ => L.length - (intOf i).toNat)
       case atStart => exact ⟨0, Nat.zero_le _, rfl, Lib.hid (by simp), Ext.refl _⟩
       case round =>
        obtain ⟨k, hk, rfl, hall, hext⟩ := hrel
        by_cases hlt : k < L.length
        · have hcell := hext.cell (HS.out.at0 k hlt)
          obtain ⟨p, hp⟩ : ∃ p, p = L.getD k [] := ⟨_, rfl⟩
          rw [← hp] at hcell
          have HP := Lib.hid hp; clear hp
          cases hname : nameL p with
          | false =>
            have HN := Lib.hid hname; clear hname
            go_wp2_with (go_at_call 89; refine (name_any _ _).mono ?_; rintro e w2 ⟨rfl, hb2⟩; rw [bs_data, HN.out])
            go_ret2
            rw [pathL_bad hn.out (by rw [HL.out]; exact all_getD hlt (by rw [← HP.out]; exact HN.out))]; exact ⟨rfl, hx.trans (hext.trans hb2)⟩
          | true =>
            have HN := Lib.hid hname; clear hname
            go_wp2_with (go_at_call 89; refine (name_any _ _).mono ?_; rintro e w2 ⟨rfl, hb2⟩; rw [bs_data, HN.out])
            go_roundw
            case rel => exact ⟨k + 1, by omega, by go_num, Lib.hid (all_take_step hlt hall.out (by rw [← HP.out]; exact HN.out)), hext.trans hb2⟩
            case measure => simp [intOf]; omega
        · have hkk : k = L.length := by omega
          go_wp2
          go_ret2
          subst hkk
          have hall := hall.out
          rw [List.take_length] at hall
          rw [pathL_good hn.out (by rw [size_len]; omega) HH.out (by rw [HL.out]; omega) (by rw [HL.out]; exact hall), HL.out]
          exact ⟨_, _, rfl, Nat.le_refl _, HS.out.ext hext, hx.trans hext⟩
end Go.Proofs.YtachelbodpfckaaGreatDoor
namespace Go.Proofs.YtachelbodpfckaaGreatDoor
open Go.RowKit
theorem split_none {s : ByteArray} (w : World) (hE : Env w) (h : pathL s.data.toList = none) :
 Calls Tryz.prog 50 #[.string s] w fun e w' => e = .returned (.tuple #[.slice none 0 0, .bool false]) ∧ Ext w w' := by
 have := path_split s w hE; rw [h] at this; exact this
theorem split_some {s : ByteArray} {L : List (List UInt8)} (w : World) (hE : Env w) (h : pathL s.data.toList = some L) :
 Calls Tryz.prog 50 #[.string s] w fun e w' => ∃ a cap, e = .returned (.tuple #[.slice a L.length cap, .bool true]) ∧ L.length ≤ cap ∧ Strs w' a L ∧ Ext w w' := by
 have := path_split s w hE; rw [h] at this; exact this
theorem joinTail_glue (L : List (List UInt8)) : Lib.joinTail [47] L = glue 47 L := by simp [Lib.joinTail, glue] -- 145
theorem join_joinP (L : List (List UInt8)) : 47 :: Lib.join L [47] = joinP L := by -- 145
 cases L with
 | nil => rfl
 | cons p r => rw [Lib.join_cons, joinTail_glue, joinP_cons, glue_cons]; rfl
theorem path_join (a : Option Addr) (L : List (List UInt8)) (c : Nat) (w : World) (hS : Strs w a L) (hc : L.length ≤ c) (hN : L.length ≤ 140737488355328) (hlen : (joinP L).length ≤ 140737488355328) :
 Calls Tryz.prog 137 #[.slice a L.length c] w fun e w' => e = .returned (.string (bs (joinP L))) ∧ Ext w w' := by
 have HJ := Lib.hid (join_joinP L)
 have hjl : (Lib.join L [47]).length + 1 = (joinP L).length := by rw [← join_joinP]; simp
 have HJL := Lib.hid hjl; clear hjl
 have key : Calls Tryz.prog 145 #[.slice a L.length c, .string ⟨#[47]⟩] w fun e w' => e = .returned (.string (bs (Lib.join L [47]))) ∧ Ext w w' := by
  rcases hS with hS | ⟨g, off, rfl, hg, hcell⟩
  · subst hS
    refine (Tryz.strings_Join_none _ _ _ _).mono ?_
    rintro e w' ⟨rfl, rfl⟩
    exact ⟨ret_str rfl, Ext.refl _⟩
  · have h := Tryz.strings_Join g off c (L.map bs) ⟨#[47]⟩ w (by
        intro j x hj
        have hj' : j < L.length := by
         have := (List.getElem?_eq_some_iff.1 hj).1; simpa using this
        rw [hcell j hj']
        simp [hj'] at hj
        simp [hj', hj]) hg (by simpa using hN) (by simpa using hc) (by
         have e1 : ((L.map bs).map (·.data.toList)) = L := by simp [bs_data, Function.comp_def]
         rw [e1]; show (Lib.join L [47]).length ≤ _; have := HJL.out; omega)
    have e1 : ((L.map bs).map (·.data.toList)) = L := by simp [bs_data, Function.comp_def]
    rw [e1, List.length_map] at h
    exact h
 go_enter Tryz.func137, Tryz.ntmps137
 go_wp2_with fail
 refine key.mono ?_
 rintro e w1 ⟨rfl, hx⟩
 have hlt := bs_size (Lib.join L [47])
 have hz : (bs (Lib.join L [47])).size ≤ 140737488355328 := by rw [hlt]; have := HJL.out; omega
 clear hlt
 go_wp2_with fail
 go_ret
 exact ⟨ret_str (by rw [← HJ.out]; exact bs_append [47] _), hx⟩
theorem keepS {a b : World} {p : Addr} {v : Value} (h : Ext a b) (hc : a.cell? p = some v) : Ext a b ∧ b.cell? p = some v := ⟨h, h.cell hc⟩
def parentL (l : List UInt8) : Option (List UInt8 × List UInt8) := match pathL l with
 | some (p :: q) => some (joinP ((p :: q).take q.length), (p :: q).getD q.length [])
 | _ => none
def ParentR (o : Option (List UInt8 × List UInt8)) (w : World) (e : Ending) (w' : World) : Prop :=
 match o with
 | none => e = .returned (.tuple #[.string (bs []), .string (bs []), .bool false]) ∧ Ext w w'
 | some (d, n) => e = .returned (.tuple #[.string (bs d), .string (bs n), .bool true]) ∧ Ext w w'
theorem path_parent (s : ByteArray) (w : World) (hE : Env w) :
 Calls Tryz.prog 122 #[.string s] w (ParentR (parentL s.data.toList) w) := by
 go_enter Tryz.func122, Tryz.ntmps122
 go_wp2_with fail
 cases hp : pathL s.data.toList with
 | none =>
   have HP := Lib.hid hp; clear hp
   refine (split_none _ hE HP.out).mono ?_
   rintro e w1 ⟨rfl, hx⟩
   go_wp2_with fail
   go_ret3
   have e1 : parentL s.data.toList = none := by simp [parentL, HP.out]
   rw [e1]; exact ⟨rfl, hx⟩
 | some L =>
   have HP := Lib.hid hp; clear hp
   refine (split_some _ hE HP.out).mono ?_
   rintro e w1 ⟨a, cap, rfl, hcap, hS, hx⟩
   cases L with
   | nil =>
     go_wp2_with fail
     go_ret3
     have e1 : parentL s.data.toList = none := by simp [parentL, HP.out]
     rw [e1]; exact ⟨rfl, hx⟩
   | cons p q =>
     have HF := Lib.hid (pathL_facts HP.out)
     have hq : q.length ≤ 4 := by have := HF.out.1; simp at this; omega
     have hcap' : q.length + 1 ≤ cap := hcap
     obtain ⟨g, off, rfl, hg, hcell⟩ := hS.at (by simp)
     have hc : w1.cell? ⟨g, off + q.length, none⟩ = some (.string (bs ((p :: q).getD q.length []))) := hcell q.length (by simp)
     obtain ⟨nm, hnm⟩ : ∃ nm, nm = (p :: q).getD q.length [] := ⟨_, rfl⟩
     rw [← hnm] at hc
     have HNM := Lib.hid hnm; clear hnm
     have hT : Strs w1 (some ⟨g, off, none⟩) ((p :: q).take q.length) := by
      refine Or.inr ⟨g, off, rfl, hg, fun i hi => ?_⟩
      have hi' : i < q.length := by simpa using hi
      rw [hcell i (by simp; omega)]
      congr 3
      simp only [List.getD, List.getElem?_take, if_pos hi']
     have hTl : ((p :: q).take q.length).length = q.length := by simp
     have hJl : (joinP ((p :: q).take q.length)).length ≤ 140737488355328 := by
      have h1 := joinP_len ((p :: q).take q.length)
      have h2 := glue_take_len 47 (p :: q) q.length
      have h3 := HF.out.2.2.1
      rcases HF.out.2.2.2 with ⟨_, h4⟩ | ⟨_, _, h4, _⟩
      · cases h4
      · rw [h4] at h2; omega
     have hj := fun w' (hx : Ext w1 w') => path_join (some ⟨g, off, none⟩) ((p :: q).take q.length) cap w' (hT.ext hx) (by omega) (by omega) hJl
     rw [hTl] at hj
     generalize hTT : (p :: q).take q.length = T at *
     have HTT := Lib.hid hTT; clear hTT
     have HT := Lib.hid hTl; clear hTl hcell hS
     have HJ := Lib.hid hj; clear hj
     clear hJl hT HF
     have b1 : (0 : Int) ≤ (q.length : Int) := by omega
     have b2 : (q.length : Int) ≤ (cap : Int) := by omega
     have b3 : (q.length : Int) < (q.length : Int) + 1 := by omega
     have b4 : q.length < q.length + 1 := by omega
     go_wp2_with fail
     go_region_held3 (fun w' => Ext w1 w' ∧ w'.cell? ⟨g, off + q.length, none⟩ = some (.string (bs nm))) (first | exact keepS (Ext.refl _).drew hc | assumption | go_keep)
      ((go_at_call 137; have hS0 := ‹Ext w1 _ ∧ World.cell? _ ⟨g, off + q.length, none⟩ = some (Value.string (bs nm))›; refine (HJ.out _ hS0.1).mono ?_; rintro e w2 ⟨rfl, hx2⟩; have hS2 := keepS (hS0.1.trans hx2) hc))
     go_wp2
     go_ret3
     have e1 : parentL s.data.toList = some (joinP T, nm) := by simp [parentL, HP.out, HNM.out, HTT.out]
     rw [e1]; exact ⟨rfl, hx.trans (by assumption : Ext w1 w2 ∧ _).1⟩
end Go.Proofs.YtachelbodpfckaaGreatDoor
namespace Go.Proofs.YtachelbodpfckaaGreatDoor
open Go.RowKit
end Go.Proofs.YtachelbodpfckaaGreatDoor
namespace Go.Proofs.YtachelbodpfckaaGreatDoor
end Go.Proofs.YtachelbodpfckaaGreatDoor
namespace Go.Proofs.YtachelbodpfckaaGreatDoor
end Go.Proofs.YtachelbodpfckaaGreatDoor
namespace Go.Proofs.YtachelbodpfckaaGreatDoor
def crc1 (x : BitVec 32) : BitVec 32 := if x.getLsbD 0 then (x >>> 1) ^^^ 0xEDB88320#32 else x >>> 1
def crcK : Nat → BitVec 32 → BitVec 32
 | 0, x => x
 | n + 1, x => crcK n (crc1 x)
def crc8 (x : BitVec 32) : BitVec 32 := crcK 8 x
def bv (b : UInt8) : BitVec 32 := BitVec.ofNat 32 b.toNat
def crcB (c : BitVec 32) (b : UInt8) : BitVec 32 := crc8 (c ^^^ bv b)
def crcF (c : BitVec 32) (l : List UInt8) : BitVec 32 := l.foldl crcB c
def crc0 : BitVec 32 := 0xFFFFFFFF#32
def crcL (l : List UInt8) : BitVec 32 := ~~~ (crcF crc0 l)
theorem crcF_append (s : BitVec 32) (a b : List UInt8) : crcF s (a ++ b) = crcF (crcF s a) b := by simp [crcF]
end Go.Proofs.YtachelbodpfckaaGreatDoor
namespace Go.Proofs.YtachelbodpfckaaGreatDoor
abbrev By := List UInt8
structure NeedD where
 name : By
 way : Int
 ver : By
structure FileD where
 path : By
 config : Bool
 data : By
structure PkgD where
 name : By
 ver : By
 needs : List NeedD
 conf : List By
 files : List FileD
 units : List By
theorem le32_num4 {n : Nat} (h : n < 4294967296) (l : By) : le32 (num4 n ++ l) = n := by
 simp only [le32, byteAt, num4, List.cons_append, List.nil_append, List.getD_cons_zero, List.getD_cons_succ, UInt8.toNat_ofNat']
 omega
theorem rNum_back {most n : Nat} (h : n ≤ most) (hn : n < 4294967296) (l : By) : rNum most (num4 n ++ l, false) = (n, (l, false)) := by
 have hl : ¬ (num4 n ++ l).length < 4 := by simp [num4_len]
 unfold rNum
 simp only [if_neg hl, le32_num4 hn, if_neg (show ¬ most < n by omega)]
 rfl
theorem nameL_12 {l : By} (h : nameL l = true) : l.length ≤ 12 := by
 unfold nameL at h
 simp only [Bool.and_eq_true, decide_eq_true_eq] at h
 omega
structure RdPk where
 p : PkgD
 ok : Bool
end Go.Proofs.YtachelbodpfckaaGreatDoor
namespace Go.Proofs.YtachelbodpfckaaGreatDoor
open Go.RowKit
theorem sorted_names {D : DataW Value} {w : World} {b n : Nat} {f : By → Option Value} (h1 : w.ownsMap Tryz.prog 9 selfR b n D) (h3 : ∀ x, Maps.has D (keyS x) = (f x).isSome) {ss : List By} (hp : ss.Perm (strKeys D)) :
 (ss.mergeSort leB).Pairwise (fun x y => x ≤ y) ∧ (ss.mergeSort leB).Nodup ∧ ∀ x, x ∈ ss.mergeSort leB ↔ (f x).isSome = true := by
 obtain ⟨es, hD, hpw, _⟩ := h1.entries str_keyed
 obtain ⟨es', hD', hko⟩ := h1.keysOf
 obtain rfl : es = es' := by rw [hD] at hD'; simpa using hD'
 subst hD
 have hk : ∀ p ∈ es, ∃ x, p.1 = .string x := fun p hp => by obtain ⟨v, hv⟩ := hko p hp; obtain ⟨x, _, hx, _⟩ := Maps.keyOf_str Tryz.underlying9 hv; exact ⟨x, hx⟩
 have tr : ∀ a b c : List UInt8, leB a b = true → leB b c = true → leB a c = true := fun a b c h1 h2 => by simp only [leB, decide_eq_true_eq] at *; exact List.le_trans h1 h2
 have tot : ∀ a b : List UInt8, (leB a b || leB b a) = true := fun a b => by simp only [leB, Bool.or_eq_true, decide_eq_true_eq]; exact List.le_total a b
 have hs := List.pairwise_mergeSort tr tot ss
 have hm : (ss.mergeSort leB).Perm (strKeys (.map es)) := (List.mergeSort_perm ss _).trans hp
 have hnd : (strKeys (.map es)).Nodup := by
  show (es.map fun p => strOf p.1).Nodup
  refine List.pairwise_map.2 (List.Pairwise.imp_of_mem (fun {p q} hp' hq' hne e => hne ?_) hpw)
  obtain ⟨a, ha⟩ := hk p hp'
  obtain ⟨b, hb⟩ := hk q hq'
  rw [ha, hb] at e ⊢
  exact congrArg _ e
 refine ⟨List.Pairwise.imp (fun {a b} h => by simpa [leB] using h) hs, hm.nodup_iff.2 hnd, fun x => ?_⟩
 rw [hm.mem_iff, ← h3 x]
 show x ∈ es.map (fun p => strOf p.1) ↔ Maps.has (.map es) (.string x) = true
 rw [Maps.has_eq, List.any_eq_true, List.mem_map]
 constructor
 · rintro ⟨p, hp', rfl⟩
   obtain ⟨a, ha⟩ := hk p hp'
   exact ⟨p, hp', by rw [ha]; simp [Lit.sameKey, strOf]⟩
 · rintro ⟨p, hp', hs⟩
   obtain ⟨a, ha⟩ := hk p hp'
   rw [ha] at hs
   exact ⟨p, hp', by rw [ha]; simpa [Lit.sameKey, strOf] using hs⟩
theorem MapF.size_names {w : World} {b n : Nat} {f : By → Option Value} (h : MapF keyS w 9 b n f) {ss : List By} (hn : ss.Nodup) (hs : ∀ x, x ∈ ss ↔ (f x).isSome = true) (ty : TypeId) {t e : TypeId} (ht : Tryz.prog.underlying t = some (.map 9 e)) :
 (Builtin.len_ #[t] ty #[.map (some b)]).run Tryz.prog w = .ok (.int .i64 ss.length) w := by
 obtain ⟨D, h1, _, h3⟩ := h
 rw [h1.len ht ty]
 obtain ⟨_, hnd, hmem⟩ := sorted_names h1 (fun x => (h3 x).2) (List.Perm.refl (strKeys D))
 have hp : ((strKeys D).mergeSort leB).Perm ss := (List.perm_ext_iff_of_nodup hnd hn).2 fun x => by rw [hmem, hs]
 have h4 := hp.length_eq
 rw [(List.mergeSort_perm _ leB).length_eq] at h4
 obtain ⟨es, hD, _⟩ := h1.entries str_keyed
 have h5 : Maps.size D = (strKeys D).length := by
  subst hD
  rw [Maps.size_eq]
  show es.length = (es.map fun p => strOf p.1).length
  simp
 rw [h5, h4]
end Go.Proofs.YtachelbodpfckaaGreatDoor
namespace Go.Proofs.YtachelbodpfckaaGreatDoor
open Go.RowKit
def Rd (S : Nat → Prop) (w : World) (R : Nat) (s : RSt) : Prop :=
 ∃ a c, w.heap[R]? = some (.cells #[.slice a s.1.length c, .bool s.2] 175 (0, 0)) ∧ s.1.length ≤ c ∧ BytesS S w a s.1
theorem cell_not {S : Nat → Prop} {w : World} {R : Nat} {s : RSt} (h : Rd S w R s) {g o : Nat} {v : Value} (hv : w.cell? ⟨g, o, none⟩ = some v) (h1 : ∀ a n c, v ≠ .slice a n c) (h2 : ∀ b, v ≠ .bool b) : g ≠ R := by
 rintro rfl
 obtain ⟨a, c, hg, _⟩ := h
 unfold World.cell? at hv
 simp only [hg] at hv
 match o, hv with
 | 0, hv => simp at hv; exact h1 _ _ _ hv.symm
 | 1, hv => simp at hv; exact h2 _ hv.symm
 | o + 2, hv => simp at hv
theorem BytesS.but {S T : Nat → Prop} {w w' : World} {R : Nat} {s : RSt} {a : Option Addr} {l : List UInt8} (hR : Rd S w R s) (h : BytesS T w a l) (k : But R w w') : BytesS T w' a l := by
 rcases h with h | ⟨g, off, ha, hg, hS, hc⟩
 · exact Or.inl h
 · refine Or.inr ⟨g, off, ha, Nat.lt_of_lt_of_le hg k.size, hS, fun i hi => ?_⟩
   have hi' : i < l.length := by simpa [byteV] using hi
   have h1 := hc i hi
   rw [byteV_at hi'] at h1 ⊢
   exact k.cell (cell_not hR h1 (by intros; simp) (by intros; simp)) h1
theorem Rd.ext {S : Nat → Prop} {w w' : World} {Q : Nat} {t : RSt} (h : Rd S w Q t) (k : Ext w w') : Rd S w' Q t := by
 obtain ⟨a, c, hg, hc, hb⟩ := h
 exact ⟨a, c, k.heap hg, hc, Row.keep hb (Keep.of_ext k)⟩
theorem rd_num_bad {S : Nat → Prop} {w : World} {R : Nat} {s : RSt} (h : Rd S w R s) : But R w ((w.setCell ⟨R, 1, none⟩ (.bool true)).setCell ⟨R, 0, none⟩ (.slice none 0 0)) ∧ Rd S ((w.setCell ⟨R, 1, none⟩ (.bool true)).setCell ⟨R, 0, none⟩ (.slice none 0 0)) R ([], true) := by
 obtain ⟨a, c, hg, hc, hb⟩ := h
 refine ⟨((But.refl R w).setCell 1 _).setCell 0 _, none, 0, ?_, Nat.le_refl _, Or.inl rfl⟩
 rw [setCell_row (setCell_row hg _)]
 rfl
theorem rd_cut {S : Nat → Prop} {w : World} {R g off c k : Nat} {s : RSt} {a' : Option Addr} {c' : Nat} (hg : w.heap[R]? = some (.cells #[.slice (some ⟨g, off, none⟩) s.1.length c, .bool s.2] 175 (0, 0))) (hc : s.1.length ≤ c) (hb : BytesS S w (some ⟨g, off, none⟩) s.1) (hk : k ≤ s.1.length)
 (ha : s.1.length = k ∨ a' = some ⟨g, off + k, none⟩) (hc' : s.1.length - k ≤ c') :
 But R w (w.setCell ⟨R, 0, none⟩ (.slice a' (s.1.length - k) c')) ∧ Rd S (w.setCell ⟨R, 0, none⟩ (.slice a' (s.1.length - k) c')) R (s.1.drop k, s.2) := by
 have hB : But R w (w.setCell ⟨R, 0, none⟩ (.slice a' (s.1.length - k) c')) := (But.refl R w).setCell 0 _
 have hR : Rd S w R s := ⟨_, _, hg, hc, hb⟩
 refine ⟨hB, a', c', ?_, by simpa using hc', ?_⟩
 · rw [setCell_row hg]; simp
 · rcases ha with h | rfl
   · left; simp [byteV, h]
   · have hb2 := hb.but hR hB
     rcases hb2 with h | ⟨g', off', ha, hlt, hSg, hcell⟩
     · left
       have : s.1 = [] := by simpa [byteV] using h
       simp [byteV, this]
     · have ha := Option.some.inj ha
       obtain ⟨rfl, rfl⟩ : g = g' ∧ off = off' := by constructor <;> (cases ha; rfl)
       right
       refine ⟨g, off + k, rfl, hlt, hSg, fun i hi => ?_⟩
       have hi' : k + i < s.1.length := by simp [byteV] at hi; omega
       have := hcell (k + i) (by simpa [byteV] using hi')
       rw [← Nat.add_assoc] at this
       rw [this]
       simp [byteV, List.getElem?_drop]
theorem rd_facts {w : World} {R : Nat} {v0 v1 : Value} {t : TypeId} (hg : w.heap[R]? = some (.cells #[v0, v1] t (0, 0))) :
 w.cell? ⟨R, 0, none⟩ = some v0 ∧ w.cell? ⟨R, 1, none⟩ = some v1 ∧ w.frozen? ⟨R, 0, none⟩ = false ∧ w.frozen? ⟨R, 1, none⟩ = false := by
 refine ⟨?_, ?_, ?_, ?_⟩
 · unfold World.cell?; simp only [hg]; simp
 · unfold World.cell?; simp only [hg]; simp
 · unfold World.frozen?; simp only [hg]; simp
 · unfold World.frozen?; simp only [hg]; simp
end Go.Proofs.YtachelbodpfckaaGreatDoor
