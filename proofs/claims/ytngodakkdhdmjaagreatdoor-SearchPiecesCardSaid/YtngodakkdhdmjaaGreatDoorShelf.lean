/-
  DERIVED: THE SHELF's CONTRACTS AT THIS DUMP, IN PLAIN WORDS (tools/lay-plain.mjs out of 'TryzLayS.lean', which tools/lay-shelf.mjs wrote): THE SAME DECLARATIONS UNDER THE SAME NAMES: 'import', 'namespace', 'open', 'def', 'theorem' AND NOTHING ELSE: no command of the shelf's: FOR A HAND-IN. Each laying: the table of numbers ('.._ren') and one theorem, a field a fact of the dump's own or the kernel's comparison; each contract: ONE APPLICATION.
-/
import Derived.Shelf.Small.Bits
import Derived.Shelf.Small.Wraps
import Derived.Shelf.Utf8.RuneCount
import Derived.Shelf.Strconv.Itoa0
import Derived.Shelf.Strconv.Itoa1
import Derived.Shelf.LaysM
import Derived.Shelf.Strconv.Itoa2
import Derived.Shelf.Strconv.Itoa3
import Derived.Shelf.Strings.Search1
import Derived.Shelf.Strings.Search2
import Derived.Shelf.Strings.Search3
import Derived.Shelf.Strings.Count
import Derived.Shelf.Strings.Shaped
import Derived.Shelf.Sort.Plain
import Derived.Shelf.Strings.Prefix
import Derived.Shelf.Strings.Split
import Derived.Shelf.Strings.SplitShaped
import Derived.Shelf.Unicode.Decode
import Derived.Shelf.Strings.RuneCount
import Derived.Shelf.Strings.Explode
import Derived.Shelf.Unicode.DecodeSlow
import Derived.Shelf.Unicode.DecodeAny
import Derived.Shelf.Slices.Turned
import Derived.Shelf.Slices.Equal
import Derived.Ground.Names2Prog
import Derived.Shelf.Slices.SearchI
import Derived.Shelf.Slices.In.SortNone
import Derived.Shelf.Slices.Empties2
import Derived.Ground.SlsfProg
import Derived.Shelf.SlSortCmp.Insertion
import Derived.Shelf.SlSortCmp.SiftDown1
import Derived.Shelf.SlSortCmp.HeapSort1
import Derived.Shelf.SlSortCmp.Insertion1
import Derived.Shelf.SlSortCmp.Median1
import Derived.Shelf.SlSortCmp.Pivot1
import Derived.Shelf.SlSortCmp.ReverseRange1
import Derived.Shelf.SlSortCmp.PartialInsertion1
import Derived.Shelf.SlSortCmp.PartitionEqual1
import Derived.Shelf.SlSortCmp.Partition1
import Derived.Shelf.SlSortCmp.Pdq1
import Derived.Shelf.SlSortCmp.Whole1
import Derived.Shelf.SlSortCmp.NoneTotal
import Derived.Shelf.SlSortCmp.WholeK
import Derived.Shelf.SlGeneric
import Derived.Shelf.Spec.SlicesGrow
import Derived.Ground.Names8Prog
import Derived.Test.YtngodakkdhdmjaaGreatDoorProg
namespace Go.Proofs
open Go.Shelf
def Tryz.sortPost_ren : Go.Shelf.Ren := ⟨fun | 6 => 58 | 15 => 90 | 14 => 98 | 28 => 131 | 29 => 132 | 20 => 135 | 21 => 136 | 22 => 137 | 23 => 138 | 24 => 139 | 25 => 140 | 26 => 141 | 27 => 142 | 46 => 176 | 47 => 172 | 48 => 173 | 49 => 177 | 50 => 178 | 57 => 191 | n => n, fun | 22 => 23 | 24 => 36 | 25 => 99 | 3 => 3 | 39 => 132 | 0 => 0 | 53 => 164 | 55 => 166 | 4 => 4 | 46 => 157 | 45 => 156 | 50 => 161 | 5 => 5 | 9 => 9 | 66 => 191 | 70 => 195 | 76 => 205 | 77 => 77 | n => n, fun | n => n⟩
theorem Tryz.sortPost : Go.Proofs.SlLaysF0.n6 Tryz.prog Tryz.sortPost_ren := {
  mixed := by kernel_rfl
  f6 := ⟨Tryz.f58.name, by decide, Tryz.func58.trans (congrArg some (by kernel_rfl))⟩
  f14 := ⟨Tryz.f98.name, by decide, Tryz.func98.trans (congrArg some (by kernel_rfl))⟩
  f15 := Tryz.func90.trans (congrArg some (by kernel_rfl))
  f20 := ⟨Tryz.f135.name, by decide, Tryz.func135.trans (congrArg some (by kernel_rfl))⟩
  f21 := ⟨Tryz.f136.name, by decide, Tryz.func136.trans (congrArg some (by kernel_rfl))⟩
  f22 := ⟨Tryz.f137.name, by decide, Tryz.func137.trans (congrArg some (by kernel_rfl))⟩
  f23 := ⟨Tryz.f138.name, by decide, Tryz.func138.trans (congrArg some (by kernel_rfl))⟩
  f24 := ⟨Tryz.f139.name, by decide, Tryz.func139.trans (congrArg some (by kernel_rfl))⟩
  f25 := ⟨Tryz.f140.name, by decide, Tryz.func140.trans (congrArg some (by kernel_rfl))⟩
  f26 := ⟨Tryz.f141.name, by decide, Tryz.func141.trans (congrArg some (by kernel_rfl))⟩
  f27 := ⟨Tryz.f142.name, by decide, Tryz.func142.trans (congrArg some (by kernel_rfl))⟩
  f28 := Tryz.func131.trans (congrArg some (by kernel_rfl))
  f29 := Tryz.func132.trans (congrArg some (by kernel_rfl))
  f46 := ⟨Tryz.f176.name, by decide, Tryz.func176.trans (congrArg some (by kernel_rfl))⟩
  f47 := Tryz.func172.trans (congrArg some (by kernel_rfl))
  f48 := Tryz.func173.trans (congrArg some (by kernel_rfl))
  f49 := ⟨Tryz.f177.name, by decide, Tryz.func177.trans (congrArg some (by kernel_rfl))⟩
  f50 := ⟨Tryz.f178.name, by decide, Tryz.func178.trans (congrArg some (by kernel_rfl))⟩
  f57 := ⟨Tryz.f191.name, by decide, Tryz.func191.trans (congrArg some (by kernel_rfl))⟩
  t0 := Tryz.underlying0
  a0 := Tryz.isAgg0
  z0 := Tryz.sizeOf0
  v0 := Tryz.zeroValue0
  t3 := Tryz.underlying3
  a3 := Tryz.isAgg3
  z3 := Tryz.sizeOf3
  v3 := Tryz.zeroValue3
  t4 := Tryz.underlying4
  a4 := Tryz.isAgg4
  z4 := Tryz.sizeOf4
  v4 := Tryz.zeroValue4
  t5 := Tryz.underlying5
  a5 := Tryz.isAgg5
  z5 := Tryz.sizeOf5
  v5 := Tryz.zeroValue5
  t9 := Tryz.underlying9
  a9 := Tryz.isAgg9
  z9 := Tryz.sizeOf9
  v9 := Tryz.zeroValue9
  t22 := Tryz.underlying23
  a22 := Tryz.isAgg23
  z22 := Tryz.sizeOf23
  v22 := Tryz.zeroValue23
  t25 := Tryz.underlying99
  a25 := Tryz.isAgg99
  z25 := Tryz.sizeOf99
  v25 := Tryz.zeroValue99
  t39 := Tryz.underlying132
  a39 := Tryz.isAgg132
  z39 := Tryz.sizeOf132
  v39 := Tryz.zeroValue132
  t45 := Tryz.underlying156
  a45 := Tryz.isAgg156
  z45 := Tryz.sizeOf156
  v45 := Tryz.zeroValue156
  t46 := Tryz.underlying157
  a46 := Tryz.isAgg157
  z46 := Tryz.sizeOf157
  v46 := Tryz.zeroValue157
  t50 := Tryz.underlying161
  a50 := Tryz.isAgg161
  z50 := Tryz.sizeOf161
  v50 := Tryz.zeroValue161
  t53 := Tryz.underlying164
  a53 := Tryz.isAgg164
  z53 := Tryz.sizeOf164
  v53 := Tryz.zeroValue164
  t55 := Tryz.underlying166
  a55 := Tryz.isAgg166
  z55 := Tryz.sizeOf166
  v55 := Tryz.zeroValue166
  t66 := Tryz.underlying191
  a66 := Tryz.isAgg191
  z66 := Tryz.sizeOf191
  v66 := Tryz.zeroValue191
  t70 := Tryz.underlying195
  a70 := Tryz.isAgg195
  z70 := Tryz.sizeOf195
  v70 := Tryz.zeroValue195
  t76 := Tryz.underlying205
  a76 := Tryz.isAgg205
  z76 := Tryz.sizeOf205
  v76 := Tryz.zeroValue205
  t77 := Tryz.underlying77
  a77 := Tryz.isAgg77
  z77 := Tryz.sizeOf77
  v77 := Tryz.zeroValue77 }
def Tryz.sortHit_ren : Go.Shelf.Ren := ⟨fun | 6 => 65 | 15 => 90 | 14 => 107 | 28 => 131 | 29 => 132 | 20 => 151 | 21 => 152 | 22 => 153 | 23 => 154 | 24 => 155 | 25 => 156 | 26 => 157 | 27 => 158 | 46 => 180 | 47 => 172 | 48 => 173 | 49 => 181 | 50 => 182 | 57 => 192 | n => n, fun | 22 => 22 | 24 => 30 | 25 => 104 | 3 => 3 | 39 => 132 | 0 => 0 | 53 => 164 | 55 => 166 | 4 => 4 | 46 => 157 | 45 => 156 | 50 => 161 | 5 => 5 | 9 => 9 | 66 => 191 | 70 => 195 | 76 => 205 | 77 => 77 | n => n, fun | n => n⟩
theorem Tryz.sortHit : Go.Proofs.SlLaysF0.n6 Tryz.prog Tryz.sortHit_ren := {
  mixed := by kernel_rfl
  f6 := ⟨Tryz.f65.name, by decide, Tryz.func65.trans (congrArg some (by kernel_rfl))⟩
  f14 := ⟨Tryz.f107.name, by decide, Tryz.func107.trans (congrArg some (by kernel_rfl))⟩
  f15 := Tryz.func90.trans (congrArg some (by kernel_rfl))
  f20 := ⟨Tryz.f151.name, by decide, Tryz.func151.trans (congrArg some (by kernel_rfl))⟩
  f21 := ⟨Tryz.f152.name, by decide, Tryz.func152.trans (congrArg some (by kernel_rfl))⟩
  f22 := ⟨Tryz.f153.name, by decide, Tryz.func153.trans (congrArg some (by kernel_rfl))⟩
  f23 := ⟨Tryz.f154.name, by decide, Tryz.func154.trans (congrArg some (by kernel_rfl))⟩
  f24 := ⟨Tryz.f155.name, by decide, Tryz.func155.trans (congrArg some (by kernel_rfl))⟩
  f25 := ⟨Tryz.f156.name, by decide, Tryz.func156.trans (congrArg some (by kernel_rfl))⟩
  f26 := ⟨Tryz.f157.name, by decide, Tryz.func157.trans (congrArg some (by kernel_rfl))⟩
  f27 := ⟨Tryz.f158.name, by decide, Tryz.func158.trans (congrArg some (by kernel_rfl))⟩
  f28 := Tryz.func131.trans (congrArg some (by kernel_rfl))
  f29 := Tryz.func132.trans (congrArg some (by kernel_rfl))
  f46 := ⟨Tryz.f180.name, by decide, Tryz.func180.trans (congrArg some (by kernel_rfl))⟩
  f47 := Tryz.func172.trans (congrArg some (by kernel_rfl))
  f48 := Tryz.func173.trans (congrArg some (by kernel_rfl))
  f49 := ⟨Tryz.f181.name, by decide, Tryz.func181.trans (congrArg some (by kernel_rfl))⟩
  f50 := ⟨Tryz.f182.name, by decide, Tryz.func182.trans (congrArg some (by kernel_rfl))⟩
  f57 := ⟨Tryz.f192.name, by decide, Tryz.func192.trans (congrArg some (by kernel_rfl))⟩
  t0 := Tryz.underlying0
  a0 := Tryz.isAgg0
  z0 := Tryz.sizeOf0
  v0 := Tryz.zeroValue0
  t3 := Tryz.underlying3
  a3 := Tryz.isAgg3
  z3 := Tryz.sizeOf3
  v3 := Tryz.zeroValue3
  t4 := Tryz.underlying4
  a4 := Tryz.isAgg4
  z4 := Tryz.sizeOf4
  v4 := Tryz.zeroValue4
  t5 := Tryz.underlying5
  a5 := Tryz.isAgg5
  z5 := Tryz.sizeOf5
  v5 := Tryz.zeroValue5
  t9 := Tryz.underlying9
  a9 := Tryz.isAgg9
  z9 := Tryz.sizeOf9
  v9 := Tryz.zeroValue9
  t22 := Tryz.underlying22
  a22 := Tryz.isAgg22
  z22 := Tryz.sizeOf22
  v22 := Tryz.zeroValue22
  t25 := Tryz.underlying104
  a25 := Tryz.isAgg104
  z25 := Tryz.sizeOf104
  v25 := Tryz.zeroValue104
  t39 := Tryz.underlying132
  a39 := Tryz.isAgg132
  z39 := Tryz.sizeOf132
  v39 := Tryz.zeroValue132
  t45 := Tryz.underlying156
  a45 := Tryz.isAgg156
  z45 := Tryz.sizeOf156
  v45 := Tryz.zeroValue156
  t46 := Tryz.underlying157
  a46 := Tryz.isAgg157
  z46 := Tryz.sizeOf157
  v46 := Tryz.zeroValue157
  t50 := Tryz.underlying161
  a50 := Tryz.isAgg161
  z50 := Tryz.sizeOf161
  v50 := Tryz.zeroValue161
  t53 := Tryz.underlying164
  a53 := Tryz.isAgg164
  z53 := Tryz.sizeOf164
  v53 := Tryz.zeroValue164
  t55 := Tryz.underlying166
  a55 := Tryz.isAgg166
  z55 := Tryz.sizeOf166
  v55 := Tryz.zeroValue166
  t66 := Tryz.underlying191
  a66 := Tryz.isAgg191
  z66 := Tryz.sizeOf191
  v66 := Tryz.zeroValue191
  t70 := Tryz.underlying195
  a70 := Tryz.isAgg195
  z70 := Tryz.sizeOf195
  v70 := Tryz.zeroValue195
  t76 := Tryz.underlying205
  a76 := Tryz.isAgg205
  z76 := Tryz.sizeOf205
  v76 := Tryz.zeroValue205
  t77 := Tryz.underlying77
  a77 := Tryz.isAgg77
  z77 := Tryz.sizeOf77
  v77 := Tryz.zeroValue77 }
def Tryz.sortStr_ren : Go.Shelf.Ren := ⟨fun | 6 => 40 | 15 => 90 | 14 => 89 | 28 => 131 | 29 => 132 | 20 => 123 | 21 => 124 | 22 => 125 | 23 => 126 | 24 => 127 | 25 => 128 | 26 => 129 | 27 => 130 | 46 => 171 | 47 => 172 | 48 => 173 | 49 => 174 | 50 => 175 | 57 => 190 | n => n, fun | 22 => 32 | 24 => 9 | 25 => 83 | 3 => 3 | 39 => 132 | 0 => 0 | 53 => 164 | 55 => 166 | 4 => 4 | 46 => 157 | 45 => 156 | 50 => 161 | 5 => 5 | 9 => 9 | 66 => 191 | 70 => 195 | 76 => 205 | 77 => 77 | n => n, fun | n => n⟩
theorem Tryz.sortStr : Go.Proofs.SlLaysF0.n6 Tryz.prog Tryz.sortStr_ren := {
  mixed := by kernel_rfl
  f6 := ⟨Tryz.f40.name, by decide, Tryz.func40.trans (congrArg some (by kernel_rfl))⟩
  f14 := ⟨Tryz.f89.name, by decide, Tryz.func89.trans (congrArg some (by kernel_rfl))⟩
  f15 := Tryz.func90.trans (congrArg some (by kernel_rfl))
  f20 := ⟨Tryz.f123.name, by decide, Tryz.func123.trans (congrArg some (by kernel_rfl))⟩
  f21 := ⟨Tryz.f124.name, by decide, Tryz.func124.trans (congrArg some (by kernel_rfl))⟩
  f22 := ⟨Tryz.f125.name, by decide, Tryz.func125.trans (congrArg some (by kernel_rfl))⟩
  f23 := ⟨Tryz.f126.name, by decide, Tryz.func126.trans (congrArg some (by kernel_rfl))⟩
  f24 := ⟨Tryz.f127.name, by decide, Tryz.func127.trans (congrArg some (by kernel_rfl))⟩
  f25 := ⟨Tryz.f128.name, by decide, Tryz.func128.trans (congrArg some (by kernel_rfl))⟩
  f26 := ⟨Tryz.f129.name, by decide, Tryz.func129.trans (congrArg some (by kernel_rfl))⟩
  f27 := ⟨Tryz.f130.name, by decide, Tryz.func130.trans (congrArg some (by kernel_rfl))⟩
  f28 := Tryz.func131.trans (congrArg some (by kernel_rfl))
  f29 := Tryz.func132.trans (congrArg some (by kernel_rfl))
  f46 := ⟨Tryz.f171.name, by decide, Tryz.func171.trans (congrArg some (by kernel_rfl))⟩
  f47 := Tryz.func172.trans (congrArg some (by kernel_rfl))
  f48 := Tryz.func173.trans (congrArg some (by kernel_rfl))
  f49 := ⟨Tryz.f174.name, by decide, Tryz.func174.trans (congrArg some (by kernel_rfl))⟩
  f50 := ⟨Tryz.f175.name, by decide, Tryz.func175.trans (congrArg some (by kernel_rfl))⟩
  f57 := ⟨Tryz.f190.name, by decide, Tryz.func190.trans (congrArg some (by kernel_rfl))⟩
  t0 := Tryz.underlying0
  a0 := Tryz.isAgg0
  z0 := Tryz.sizeOf0
  v0 := Tryz.zeroValue0
  t3 := Tryz.underlying3
  a3 := Tryz.isAgg3
  z3 := Tryz.sizeOf3
  v3 := Tryz.zeroValue3
  t4 := Tryz.underlying4
  a4 := Tryz.isAgg4
  z4 := Tryz.sizeOf4
  v4 := Tryz.zeroValue4
  t5 := Tryz.underlying5
  a5 := Tryz.isAgg5
  z5 := Tryz.sizeOf5
  v5 := Tryz.zeroValue5
  t9 := Tryz.underlying9
  a9 := Tryz.isAgg9
  z9 := Tryz.sizeOf9
  v9 := Tryz.zeroValue9
  t22 := Tryz.underlying32
  a22 := Tryz.isAgg32
  z22 := Tryz.sizeOf32
  v22 := Tryz.zeroValue32
  t25 := Tryz.underlying83
  a25 := Tryz.isAgg83
  z25 := Tryz.sizeOf83
  v25 := Tryz.zeroValue83
  t39 := Tryz.underlying132
  a39 := Tryz.isAgg132
  z39 := Tryz.sizeOf132
  v39 := Tryz.zeroValue132
  t45 := Tryz.underlying156
  a45 := Tryz.isAgg156
  z45 := Tryz.sizeOf156
  v45 := Tryz.zeroValue156
  t46 := Tryz.underlying157
  a46 := Tryz.isAgg157
  z46 := Tryz.sizeOf157
  v46 := Tryz.zeroValue157
  t50 := Tryz.underlying161
  a50 := Tryz.isAgg161
  z50 := Tryz.sizeOf161
  v50 := Tryz.zeroValue161
  t53 := Tryz.underlying164
  a53 := Tryz.isAgg164
  z53 := Tryz.sizeOf164
  v53 := Tryz.zeroValue164
  t55 := Tryz.underlying166
  a55 := Tryz.isAgg166
  z55 := Tryz.sizeOf166
  v55 := Tryz.zeroValue166
  t66 := Tryz.underlying191
  a66 := Tryz.isAgg191
  z66 := Tryz.sizeOf191
  v66 := Tryz.zeroValue191
  t70 := Tryz.underlying195
  a70 := Tryz.isAgg195
  z70 := Tryz.sizeOf195
  v70 := Tryz.zeroValue195
  t76 := Tryz.underlying205
  a76 := Tryz.isAgg205
  z76 := Tryz.sizeOf205
  v76 := Tryz.zeroValue205
  t77 := Tryz.underlying77
  a77 := Tryz.isAgg77
  z77 := Tryz.sizeOf77
  v77 := Tryz.zeroValue77 }
def Tryz.growSht_ren : Go.Shelf.Ren := ⟨fun | 4 => 118 | n => n, fun | 22 => 39 | 25 => 59 | 3 => 3 | 4 => 4 | 9 => 9 | 20 => 20 | 0 => 0 | n => n, fun | n => n⟩
theorem Tryz.growSht : Go.Proofs.Lays8.n4 Tryz.prog Tryz.growSht_ren := {
  mixed := by kernel_rfl
  f4 := ⟨Tryz.f118.name, by decide, Tryz.func118.trans (congrArg some (by kernel_rfl))⟩
  t0 := Tryz.underlying0
  a0 := Tryz.isAgg0
  z0 := Tryz.sizeOf0
  v0 := Tryz.zeroValue0
  t3 := Tryz.underlying3
  a3 := Tryz.isAgg3
  z3 := Tryz.sizeOf3
  v3 := Tryz.zeroValue3
  t4 := Tryz.underlying4
  a4 := Tryz.isAgg4
  z4 := Tryz.sizeOf4
  v4 := Tryz.zeroValue4
  t9 := Tryz.underlying9
  a9 := Tryz.isAgg9
  z9 := Tryz.sizeOf9
  v9 := Tryz.zeroValue9
  t20 := Tryz.underlying20
  a20 := Tryz.isAgg20
  z20 := Tryz.sizeOf20
  v20 := Tryz.zeroValue20
  t22 := Tryz.underlying39
  a22 := Tryz.isAgg39
  z22 := Tryz.sizeOf39
  v22 := Tryz.zeroValue39 }
def Tryz.laysM171_ren : Go.Shelf.Ren := ⟨fun | 171 => 160 | 243 => 183 | 246 => 193 | 283 => 199 | 284 => 200 | 285 => 201 | 286 => 202 | 129 => 132 | 317 => 208 | 318 => 209 | 319 => 210 | 320 => 211 | 337 => 214 | 338 => 215 | n => n, fun | 3 => 3 | 9 => 9 | 2 => 2 | 4 => 4 | 171 => 215 | 0 => 0 | 53 => 166 | 37 => 141 | 5 => 5 | 173 => 217 | 212 => 220 | 51 => 164 | 20 => 20 | 213 => 221 | 46 => 132 | 232 => 228 | 233 => 229 | n => n, fun | 17 => 1 | 18 => 4 | 19 => 5 | n => n⟩
theorem Tryz.laysM171 : Go.Proofs.LaysM.n171 Tryz.prog Tryz.laysM171_ren := {
  mixed := by kernel_rfl
  f129 := Tryz.func132.trans (congrArg some (by kernel_rfl))
  f171 := Tryz.func160.trans (congrArg some (by kernel_rfl))
  f243 := Tryz.func183.trans (congrArg some (by kernel_rfl))
  f246 := Tryz.func193.trans (congrArg some (by kernel_rfl))
  f283 := Tryz.func199.trans (congrArg some (by kernel_rfl))
  f284 := Tryz.func200.trans (congrArg some (by kernel_rfl))
  f285 := Tryz.func201.trans (congrArg some (by kernel_rfl))
  f286 := Tryz.func202.trans (congrArg some (by kernel_rfl))
  f317 := Tryz.func208.trans (congrArg some (by kernel_rfl))
  f318 := Tryz.func209.trans (congrArg some (by kernel_rfl))
  f319 := Tryz.func210.trans (congrArg some (by kernel_rfl))
  f320 := Tryz.func211.trans (congrArg some (by kernel_rfl))
  f337 := Tryz.func214.trans (congrArg some (by kernel_rfl))
  f338 := Tryz.func215.trans (congrArg some (by kernel_rfl))
  t0 := Tryz.underlying0
  a0 := Tryz.isAgg0
  z0 := Tryz.sizeOf0
  v0 := Tryz.zeroValue0
  t2 := Tryz.underlying2
  a2 := Tryz.isAgg2
  z2 := Tryz.sizeOf2
  v2 := Tryz.zeroValue2
  t3 := Tryz.underlying3
  a3 := Tryz.isAgg3
  z3 := Tryz.sizeOf3
  v3 := Tryz.zeroValue3
  t4 := Tryz.underlying4
  a4 := Tryz.isAgg4
  z4 := Tryz.sizeOf4
  v4 := Tryz.zeroValue4
  t5 := Tryz.underlying5
  a5 := Tryz.isAgg5
  z5 := Tryz.sizeOf5
  v5 := Tryz.zeroValue5
  t9 := Tryz.underlying9
  a9 := Tryz.isAgg9
  z9 := Tryz.sizeOf9
  v9 := Tryz.zeroValue9
  t20 := Tryz.underlying20
  a20 := Tryz.isAgg20
  z20 := Tryz.sizeOf20
  v20 := Tryz.zeroValue20
  t37 := Tryz.underlying141
  a37 := Tryz.isAgg141
  z37 := Tryz.sizeOf141
  v37 := Tryz.zeroValue141
  t46 := Tryz.underlying132
  a46 := Tryz.isAgg132
  z46 := Tryz.sizeOf132
  v46 := Tryz.zeroValue132
  t51 := Tryz.underlying164
  a51 := Tryz.isAgg164
  z51 := Tryz.sizeOf164
  v51 := Tryz.zeroValue164
  t53 := Tryz.underlying166
  a53 := Tryz.isAgg166
  z53 := Tryz.sizeOf166
  v53 := Tryz.zeroValue166
  t171 := Tryz.underlying215
  a171 := Tryz.isAgg215
  z171 := Tryz.sizeOf215
  v171 := Tryz.zeroValue215
  t173 := Tryz.underlying217
  a173 := Tryz.isAgg217
  z173 := Tryz.sizeOf217
  v173 := Tryz.zeroValue217
  t212 := Tryz.underlying220
  a212 := Tryz.isAgg220
  z212 := Tryz.sizeOf220
  v212 := Tryz.zeroValue220
  t213 := Tryz.underlying221
  a213 := Tryz.isAgg221
  z213 := Tryz.sizeOf221
  t232 := Tryz.underlying228
  a232 := Tryz.isAgg228
  z232 := Tryz.sizeOf228
  v232 := Tryz.zeroValue228
  t233 := Tryz.underlying229
  a233 := Tryz.isAgg229
  z233 := Tryz.sizeOf229
  v233 := Tryz.zeroValue229
  g17 := by kernel_rfl
  g18 := by kernel_rfl
  g19 := by kernel_rfl
  i0 := by kernel_rfl
  i2 := by kernel_rfl
  i3 := by kernel_rfl
  i4 := by kernel_rfl
  i5 := by kernel_rfl
  i9 := by kernel_rfl
  i20 := by kernel_rfl
  i37 := by kernel_rfl
  i46 := by kernel_rfl
  i51 := by kernel_rfl
  i53 := by kernel_rfl
  i171 := by kernel_rfl
  i173 := by kernel_rfl
  i212 := by kernel_rfl
  i232 := by kernel_rfl
  i233 := by kernel_rfl
  m17 := by kernel_rfl
  m18 := by kernel_rfl
  m19 := by kernel_rfl }
def Tryz.lays171_ren : Go.Shelf.Ren := ⟨fun | 171 => 160 | 243 => 183 | 246 => 193 | 283 => 199 | 284 => 200 | 285 => 201 | 286 => 202 | 129 => 132 | 317 => 208 | 318 => 209 | 319 => 210 | 320 => 211 | 337 => 214 | 338 => 215 | n => n, fun | 3 => 3 | 9 => 9 | 2 => 2 | 4 => 4 | 171 => 215 | 0 => 0 | 53 => 166 | 37 => 141 | 5 => 5 | 173 => 217 | 212 => 220 | 51 => 164 | 20 => 20 | 213 => 221 | 46 => 132 | 232 => 228 | 233 => 229 | n => n, fun | 17 => 1 | 18 => 4 | 19 => 5 | n => n⟩
theorem Tryz.lays171 : Go.Proofs.Lays.n171 Tryz.prog Tryz.lays171_ren := {
  mixed := by kernel_rfl
  f129 := Tryz.func132.trans (congrArg some (by kernel_rfl))
  f171 := Tryz.func160.trans (congrArg some (by kernel_rfl))
  f243 := Tryz.func183.trans (congrArg some (by kernel_rfl))
  f246 := Tryz.func193.trans (congrArg some (by kernel_rfl))
  f283 := Tryz.func199.trans (congrArg some (by kernel_rfl))
  f284 := Tryz.func200.trans (congrArg some (by kernel_rfl))
  f285 := Tryz.func201.trans (congrArg some (by kernel_rfl))
  f286 := Tryz.func202.trans (congrArg some (by kernel_rfl))
  f317 := Tryz.func208.trans (congrArg some (by kernel_rfl))
  f318 := Tryz.func209.trans (congrArg some (by kernel_rfl))
  f319 := Tryz.func210.trans (congrArg some (by kernel_rfl))
  f320 := Tryz.func211.trans (congrArg some (by kernel_rfl))
  f337 := Tryz.func214.trans (congrArg some (by kernel_rfl))
  f338 := Tryz.func215.trans (congrArg some (by kernel_rfl))
  t0 := Tryz.underlying0
  a0 := Tryz.isAgg0
  z0 := Tryz.sizeOf0
  v0 := Tryz.zeroValue0
  t2 := Tryz.underlying2
  a2 := Tryz.isAgg2
  z2 := Tryz.sizeOf2
  v2 := Tryz.zeroValue2
  t3 := Tryz.underlying3
  a3 := Tryz.isAgg3
  z3 := Tryz.sizeOf3
  v3 := Tryz.zeroValue3
  t4 := Tryz.underlying4
  a4 := Tryz.isAgg4
  z4 := Tryz.sizeOf4
  v4 := Tryz.zeroValue4
  t5 := Tryz.underlying5
  a5 := Tryz.isAgg5
  z5 := Tryz.sizeOf5
  v5 := Tryz.zeroValue5
  t9 := Tryz.underlying9
  a9 := Tryz.isAgg9
  z9 := Tryz.sizeOf9
  v9 := Tryz.zeroValue9
  t20 := Tryz.underlying20
  a20 := Tryz.isAgg20
  z20 := Tryz.sizeOf20
  v20 := Tryz.zeroValue20
  t37 := Tryz.underlying141
  a37 := Tryz.isAgg141
  z37 := Tryz.sizeOf141
  v37 := Tryz.zeroValue141
  t46 := Tryz.underlying132
  a46 := Tryz.isAgg132
  z46 := Tryz.sizeOf132
  v46 := Tryz.zeroValue132
  t51 := Tryz.underlying164
  a51 := Tryz.isAgg164
  z51 := Tryz.sizeOf164
  v51 := Tryz.zeroValue164
  t53 := Tryz.underlying166
  a53 := Tryz.isAgg166
  z53 := Tryz.sizeOf166
  v53 := Tryz.zeroValue166
  t171 := Tryz.underlying215
  a171 := Tryz.isAgg215
  z171 := Tryz.sizeOf215
  v171 := Tryz.zeroValue215
  t173 := Tryz.underlying217
  a173 := Tryz.isAgg217
  z173 := Tryz.sizeOf217
  v173 := Tryz.zeroValue217
  t212 := Tryz.underlying220
  a212 := Tryz.isAgg220
  z212 := Tryz.sizeOf220
  v212 := Tryz.zeroValue220
  t213 := Tryz.underlying221
  a213 := Tryz.isAgg221
  z213 := Tryz.sizeOf221
  t232 := Tryz.underlying228
  a232 := Tryz.isAgg228
  z232 := Tryz.sizeOf228
  v232 := Tryz.zeroValue228
  t233 := Tryz.underlying229
  a233 := Tryz.isAgg229
  z233 := Tryz.sizeOf229
  v233 := Tryz.zeroValue229
  g17 := by kernel_rfl
  g18 := by kernel_rfl
  g19 := by kernel_rfl }
def Tryz.lays189_ren : Go.Shelf.Ren := ⟨fun | 189 => 83 | 125 => 90 | 257 => 119 | 128 => 131 | 129 => 132 | 294 => 162 | 295 => 163 | 296 => 164 | 297 => 165 | 298 => 166 | 299 => 167 | 216 => 168 | 300 => 169 | 301 => 170 | 328 => 187 | 329 => 172 | 330 => 173 | 331 => 188 | 332 => 189 | 215 => 91 | 343 => 198 | n => n, fun | 28 => 71 | 3 => 3 | 46 => 132 | 0 => 0 | 51 => 164 | 53 => 166 | 4 => 4 | 183 => 157 | 182 => 156 | 131 => 161 | 5 => 5 | 9 => 9 | 218 => 191 | 222 => 195 | 228 => 205 | 229 => 77 | n => n, fun | n => n⟩
theorem Tryz.lays189 : Go.Proofs.Lays.n189 Tryz.prog Tryz.lays189_ren := {
  mixed := by kernel_rfl
  f125 := Tryz.func90.trans (congrArg some (by kernel_rfl))
  f128 := Tryz.func131.trans (congrArg some (by kernel_rfl))
  f129 := Tryz.func132.trans (congrArg some (by kernel_rfl))
  f189 := Tryz.func83.trans (congrArg some (by kernel_rfl))
  f215 := Tryz.func91.trans (congrArg some (by kernel_rfl))
  f216 := Tryz.func168.trans (congrArg some (by kernel_rfl))
  f257 := Tryz.func119.trans (congrArg some (by kernel_rfl))
  f294 := Tryz.func162.trans (congrArg some (by kernel_rfl))
  f295 := Tryz.func163.trans (congrArg some (by kernel_rfl))
  f296 := Tryz.func164.trans (congrArg some (by kernel_rfl))
  f297 := Tryz.func165.trans (congrArg some (by kernel_rfl))
  f298 := Tryz.func166.trans (congrArg some (by kernel_rfl))
  f299 := Tryz.func167.trans (congrArg some (by kernel_rfl))
  f300 := Tryz.func169.trans (congrArg some (by kernel_rfl))
  f301 := Tryz.func170.trans (congrArg some (by kernel_rfl))
  f328 := Tryz.func187.trans (congrArg some (by kernel_rfl))
  f329 := Tryz.func172.trans (congrArg some (by kernel_rfl))
  f330 := Tryz.func173.trans (congrArg some (by kernel_rfl))
  f331 := Tryz.func188.trans (congrArg some (by kernel_rfl))
  f332 := Tryz.func189.trans (congrArg some (by kernel_rfl))
  f343 := Tryz.func198.trans (congrArg some (by kernel_rfl))
  t0 := Tryz.underlying0
  a0 := Tryz.isAgg0
  z0 := Tryz.sizeOf0
  v0 := Tryz.zeroValue0
  t3 := Tryz.underlying3
  a3 := Tryz.isAgg3
  z3 := Tryz.sizeOf3
  v3 := Tryz.zeroValue3
  t4 := Tryz.underlying4
  a4 := Tryz.isAgg4
  z4 := Tryz.sizeOf4
  v4 := Tryz.zeroValue4
  t5 := Tryz.underlying5
  a5 := Tryz.isAgg5
  z5 := Tryz.sizeOf5
  v5 := Tryz.zeroValue5
  t9 := Tryz.underlying9
  a9 := Tryz.isAgg9
  z9 := Tryz.sizeOf9
  v9 := Tryz.zeroValue9
  t28 := Tryz.underlying71
  a28 := Tryz.isAgg71
  z28 := Tryz.sizeOf71
  v28 := Tryz.zeroValue71
  t46 := Tryz.underlying132
  a46 := Tryz.isAgg132
  z46 := Tryz.sizeOf132
  v46 := Tryz.zeroValue132
  t51 := Tryz.underlying164
  a51 := Tryz.isAgg164
  z51 := Tryz.sizeOf164
  v51 := Tryz.zeroValue164
  t53 := Tryz.underlying166
  a53 := Tryz.isAgg166
  z53 := Tryz.sizeOf166
  v53 := Tryz.zeroValue166
  t131 := Tryz.underlying161
  a131 := Tryz.isAgg161
  z131 := Tryz.sizeOf161
  v131 := Tryz.zeroValue161
  t182 := Tryz.underlying156
  a182 := Tryz.isAgg156
  z182 := Tryz.sizeOf156
  v182 := Tryz.zeroValue156
  t183 := Tryz.underlying157
  a183 := Tryz.isAgg157
  z183 := Tryz.sizeOf157
  v183 := Tryz.zeroValue157
  t218 := Tryz.underlying191
  a218 := Tryz.isAgg191
  z218 := Tryz.sizeOf191
  v218 := Tryz.zeroValue191
  t222 := Tryz.underlying195
  a222 := Tryz.isAgg195
  z222 := Tryz.sizeOf195
  v222 := Tryz.zeroValue195
  t228 := Tryz.underlying205
  a228 := Tryz.isAgg205
  z228 := Tryz.sizeOf205
  v228 := Tryz.zeroValue205
  t229 := Tryz.underlying77
  a229 := Tryz.isAgg77
  z229 := Tryz.sizeOf77
  v229 := Tryz.zeroValue77 }
def Tryz.lays146_ren : Go.Shelf.Ren := ⟨fun | 146 => 117 | 221 => 161 | 268 => 184 | 138 => 185 | 143 => 186 | 195 => 194 | 197 => 195 | 218 => 196 | 219 => 197 | 260 => 203 | 217 => 204 | 225 => 205 | 224 => 206 | 267 => 207 | 266 => 212 | 314 => 213 | n => n, fun | 9 => 9 | 31 => 32 | 3 => 3 | 4 => 4 | 0 => 0 | 105 => 211 | 21 => 21 | 5 => 5 | 46 => 132 | 119 => 222 | 139 => 225 | 138 => 224 | 146 => 226 | 51 => 164 | n => n, fun | 1 => 0 | 3 => 2 | 4 => 3 | n => n⟩
theorem Tryz.lays146 : Go.Proofs.Lays.n146 Tryz.prog Tryz.lays146_ren := {
  mixed := by kernel_rfl
  f138 := Tryz.func185.trans (congrArg some (by kernel_rfl))
  f143 := Tryz.func186.trans (congrArg some (by kernel_rfl))
  f146 := Tryz.func117.trans (congrArg some (by kernel_rfl))
  f195 := Tryz.func194.trans (congrArg some (by kernel_rfl))
  f197 := Tryz.func195.trans (congrArg some (by kernel_rfl))
  f217 := Tryz.func204.trans (congrArg some (by kernel_rfl))
  f218 := Tryz.func196.trans (congrArg some (by kernel_rfl))
  f219 := Tryz.func197.trans (congrArg some (by kernel_rfl))
  f221 := Tryz.func161.trans (congrArg some (by kernel_rfl))
  f224 := Tryz.func206.trans (congrArg some (by kernel_rfl))
  f225 := Tryz.func205.trans (congrArg some (by kernel_rfl))
  f260 := Tryz.func203.trans (congrArg some (by kernel_rfl))
  f266 := Tryz.func212.trans (congrArg some (by kernel_rfl))
  f267 := Tryz.func207.trans (congrArg some (by kernel_rfl))
  f268 := Tryz.func184.trans (congrArg some (by kernel_rfl))
  f314 := Tryz.func213.trans (congrArg some (by kernel_rfl))
  t0 := Tryz.underlying0
  a0 := Tryz.isAgg0
  z0 := Tryz.sizeOf0
  v0 := Tryz.zeroValue0
  t3 := Tryz.underlying3
  a3 := Tryz.isAgg3
  z3 := Tryz.sizeOf3
  v3 := Tryz.zeroValue3
  t4 := Tryz.underlying4
  a4 := Tryz.isAgg4
  z4 := Tryz.sizeOf4
  v4 := Tryz.zeroValue4
  t5 := Tryz.underlying5
  a5 := Tryz.isAgg5
  z5 := Tryz.sizeOf5
  v5 := Tryz.zeroValue5
  t9 := Tryz.underlying9
  a9 := Tryz.isAgg9
  z9 := Tryz.sizeOf9
  v9 := Tryz.zeroValue9
  t21 := Tryz.underlying21
  a21 := Tryz.isAgg21
  z21 := Tryz.sizeOf21
  v21 := Tryz.zeroValue21
  t31 := Tryz.underlying32
  a31 := Tryz.isAgg32
  z31 := Tryz.sizeOf32
  v31 := Tryz.zeroValue32
  t46 := Tryz.underlying132
  a46 := Tryz.isAgg132
  z46 := Tryz.sizeOf132
  v46 := Tryz.zeroValue132
  t51 := Tryz.underlying164
  a51 := Tryz.isAgg164
  z51 := Tryz.sizeOf164
  v51 := Tryz.zeroValue164
  t105 := Tryz.underlying211
  a105 := Tryz.isAgg211
  z105 := Tryz.sizeOf211
  v105 := Tryz.zeroValue211
  t119 := Tryz.underlying222
  a119 := Tryz.isAgg222
  z119 := Tryz.sizeOf222
  t138 := Tryz.underlying224
  a138 := Tryz.isAgg224
  z138 := Tryz.sizeOf224
  v138 := Tryz.zeroValue224
  t139 := Tryz.underlying225
  a139 := Tryz.isAgg225
  z139 := Tryz.sizeOf225
  v139 := Tryz.zeroValue225
  t146 := Tryz.underlying226
  a146 := Tryz.isAgg226
  z146 := Tryz.sizeOf226
  v146 := Tryz.zeroValue226
  g1 := by kernel_rfl
  g3 := by kernel_rfl
  g4 := by kernel_rfl }
open Go.RowKit Go.Sort Go.Lib in
/-- strconv.Itoa: "Itoa is equivalent to FormatInt(int64(i), 10).": i's DECIMAL NUMERAL ('Lib.itoa': a '-' where i is negative, then the digits), FOR EVERY int. The world behind the call: the world before it, new blocks behind the heap (the library's 'var a [24]byte'), draws. (LAID: no walk: one application.) -/
theorem Tryz.strconv_Itoa (n : Int) (h0 : -9223372036854775808 ≤ n) (h1 : n ≤ 9223372036854775807) (w : World) (htab : Lib.TabIs Tryz.prog w "internal/strconv.uint64pow10" .u64 Lib.pow10Tab) :
    Calls Tryz.prog 160 #[.int .i64 n] w fun e w' => e = .returned (.string ⟨(Lib.itoa n).toArray⟩) ∧ ∃ k os, w' = grow (w.drewN k) os := Any.strconv_Itoa Tryz.laysM171 n h0 h1 w htab
open Go.RowKit Go.Sort Go.Lib in
/-- THE ROAD WITHOUT THE TABLE: 0 <= i < 100: NO PREMISE ON THE WORLD, AND THE WORLD IS AS IT WAS: a row that keeps its argument in that range need list no table ('laid = []'). (LAID: no walk: one application.) -/
theorem Tryz.strconv_Itoa_small (i : Nat) (hi : i < 100) (w : World) :
    Calls Tryz.prog 160 #[.int .i64 i] w fun e w' => e = .returned (.string ⟨(Lib.decDigits i).toArray⟩) ∧ w' = w := Any.strconv_Itoa_small Tryz.lays171 i hi w
open Go.Sort Go.RowKit in
theorem Tryz.slices_Sort_int (blk off cap : Nat) (zs : List Int) (w : World) (hH : Holds (Value.int .i64) w blk off zs.toArray) (hblk : blk < w.heap.size) (hsz : zs.length < 4611686018427387904) :
    Calls Tryz.prog 83 #[.slice (some ⟨blk, off, none⟩) zs.length cap] w fun e w' =>
      e = .returned (.tuple #[]) ∧ ∃ n os, w' = grow (putRow (Value.int .i64) (Sort.ahead w n) blk off (zs.mergeSort fun x y => decide (x ≤ y)).toArray) os := Any.slices_Sort_int Tryz.lays189 blk off cap zs w hH hblk hsz
open Go.RowKit Go.Lib in
/-- strings.Split. (LAID: no walk: one application.) -/
theorem Tryz.strings_Split (s sep : ByteArray) (m : Int) (w : World) (hs : s.size < 4294967281) (hm : w.cell? ⟨0, 0, none⟩ = some (.int .i64 m)) (h1 : 1 ≤ sep.size) :
    Calls Tryz.prog 117 #[.string s, .string sep] w fun e w' =>
      e = .returned (.slice (some ⟨w.heap.size, 0, none⟩) (Lib.countB s sep + 1) (Lib.countB s sep + 1)) ∧ w' = w.alloc (.cells ((Lib.splitB sep 0 (Lib.countB s sep) s).map Value.string).toArray 9) := Any.strings_Split Tryz.lays146 (by kernel_rfl) s sep m w hs hm h1
open Go.RowKit Go.Sort in
/-- .. and plain. (LAID: no walk: one application.) -/
theorem Tryz.slices_Sort_int_none (p : Option Addr) (cap : Nat) (w : World) :
    Calls Tryz.prog 83 #[.slice p 0 cap] w fun e w' => e = .returned (.tuple #[]) ∧ w' = w := Any.slices_Sort_int_none Tryz.lays189 p cap w
end Go.Proofs
