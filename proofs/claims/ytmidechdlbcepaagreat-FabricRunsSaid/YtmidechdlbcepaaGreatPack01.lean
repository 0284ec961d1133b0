import Derived.Shelf.SlSortCmp.WholeK
import Derived.Test.YtmidechdlbcepaaGreatProg
set_option linter.unusedSimpArgs false
set_option linter.unusedVariables false
namespace Go.Proofs.YtmidechdlbcepaaGreat
open Go.Proofs Go.Shelf
set_option maxRecDepth 100000
def sortRen : Ren := ⟨fun x => match x with | 6 => 115 | 14 => 146 | 15 => 147 | 20 => 160 | 21 => 161 | 22 => 162 | 23 => 163 | 24 => 164 | 25 => 165 | 26 => 166 | 27 => 167 | 28 => 168 | 29 => 169 | 46 => 177 | 47 => 178 | 48 => 179 | 49 => 180 | 50 => 181 | 57 => 184 | n => n, fun x => match x with | 22 => 85 | 24 => 108 | 25 => 177 | 3 => 3 | 39 => 169 | 0 => 0 | 53 => 221 | 55 => 223 | 4 => 4 | 46 => 214 | 45 => 213 | 50 => 218 | 5 => 5 | 9 => 9 | 66 => 228 | 70 => 232 | 76 => 235 | 77 => 236 | n => n, fun n => n⟩
theorem sortLays : SlLaysF0.n6 Tryz.prog sortRen where
  mixed := by kernel_rfl
  f6 := ⟨Tryz.f115.name, by kernel_rfl, Tryz.func115.trans (congrArg some (by kernel_rfl))⟩
  f14 := ⟨Tryz.f146.name, by kernel_rfl, Tryz.func146.trans (congrArg some (by kernel_rfl))⟩
  f15 := Tryz.func147.trans (congrArg some (by kernel_rfl))
  f20 := ⟨Tryz.f160.name, by kernel_rfl, Tryz.func160.trans (congrArg some (by kernel_rfl))⟩
  f21 := ⟨Tryz.f161.name, by kernel_rfl, Tryz.func161.trans (congrArg some (by kernel_rfl))⟩
  f22 := ⟨Tryz.f162.name, by kernel_rfl, Tryz.func162.trans (congrArg some (by kernel_rfl))⟩
  f23 := ⟨Tryz.f163.name, by kernel_rfl, Tryz.func163.trans (congrArg some (by kernel_rfl))⟩
  f24 := ⟨Tryz.f164.name, by kernel_rfl, Tryz.func164.trans (congrArg some (by kernel_rfl))⟩
  f25 := ⟨Tryz.f165.name, by kernel_rfl, Tryz.func165.trans (congrArg some (by kernel_rfl))⟩
  f26 := ⟨Tryz.f166.name, by kernel_rfl, Tryz.func166.trans (congrArg some (by kernel_rfl))⟩
  f27 := ⟨Tryz.f167.name, by kernel_rfl, Tryz.func167.trans (congrArg some (by kernel_rfl))⟩
  f28 := Tryz.func168.trans (congrArg some (by kernel_rfl))
  f29 := Tryz.func169.trans (congrArg some (by kernel_rfl))
  f46 := ⟨Tryz.f177.name, by kernel_rfl, Tryz.func177.trans (congrArg some (by kernel_rfl))⟩
  f47 := Tryz.func178.trans (congrArg some (by kernel_rfl))
  f48 := Tryz.func179.trans (congrArg some (by kernel_rfl))
  f49 := ⟨Tryz.f180.name, by kernel_rfl, Tryz.func180.trans (congrArg some (by kernel_rfl))⟩
  f50 := ⟨Tryz.f181.name, by kernel_rfl, Tryz.func181.trans (congrArg some (by kernel_rfl))⟩
  f57 := ⟨Tryz.f184.name, by kernel_rfl, Tryz.func184.trans (congrArg some (by kernel_rfl))⟩
  t0 := Tryz.underlying0
  a0 := Tryz.isAgg0
  z0 := Tryz.sizeOf0
  v0 := Tryz.zeroValue0
  t3 := Tryz.underlying3
  a3 := Tryz.isAgg3
  z3 := Tryz.sizeOf3
  v3 := Tryz.zeroValue3
  t4 := Tryz.underlying4
  a4 := Tryz.isAgg4
  z4 := Tryz.sizeOf4
  v4 := Tryz.zeroValue4
  t5 := Tryz.underlying5
  a5 := Tryz.isAgg5
  z5 := Tryz.sizeOf5
  v5 := Tryz.zeroValue5
  t9 := Tryz.underlying9
  a9 := Tryz.isAgg9
  z9 := Tryz.sizeOf9
  v9 := Tryz.zeroValue9
  t22 := Tryz.underlying85
  a22 := Tryz.isAgg85
  z22 := Tryz.sizeOf85
  v22 := Tryz.zeroValue85
  t25 := Tryz.underlying177
  a25 := Tryz.isAgg177
  z25 := Tryz.sizeOf177
  v25 := Tryz.zeroValue177
  t39 := Tryz.underlying169
  a39 := Tryz.isAgg169
  z39 := Tryz.sizeOf169
  v39 := Tryz.zeroValue169
  t45 := Tryz.underlying213
  a45 := Tryz.isAgg213
  z45 := Tryz.sizeOf213
  v45 := Tryz.zeroValue213
  t46 := Tryz.underlying214
  a46 := Tryz.isAgg214
  z46 := Tryz.sizeOf214
  v46 := Tryz.zeroValue214
  t50 := Tryz.underlying218
  a50 := Tryz.isAgg218
  z50 := Tryz.sizeOf218
  v50 := Tryz.zeroValue218
  t53 := Tryz.underlying221
  a53 := Tryz.isAgg221
  z53 := Tryz.sizeOf221
  v53 := Tryz.zeroValue221
  t55 := Tryz.underlying223
  a55 := Tryz.isAgg223
  z55 := Tryz.sizeOf223
  v55 := Tryz.zeroValue223
  t66 := Tryz.underlying228
  a66 := Tryz.isAgg228
  z66 := Tryz.sizeOf228
  v66 := Tryz.zeroValue228
  t70 := Tryz.underlying232
  a70 := Tryz.isAgg232
  z70 := Tryz.sizeOf232
  v70 := Tryz.zeroValue232
  t76 := Tryz.underlying235
  a76 := Tryz.isAgg235
  z76 := Tryz.sizeOf235
  v76 := Tryz.zeroValue235
  t77 := Tryz.underlying236
  a77 := Tryz.isAgg236
  z77 := Tryz.sizeOf236
  v77 := Tryz.zeroValue236
end Go.Proofs.YtmidechdlbcepaaGreat