/- slices.SortFunc at flows: the library's bodies are those that the kit proved. -/
import Derived.Shelf.SlSortCmp.WholeK
import Derived.Test.YtdbbmjdeeenlhaaProg
set_option linter.unusedSimpArgs false
set_option linter.unusedVariables false
namespace Go.Proofs.Ytdbbmjdeeenlhaa
open Go.Proofs Go.Shelf
set_option maxRecDepth 100000
def sortRen : Ren := ⟨fun x => match x with | 6 => 75 | 14 => 118 | 15 => 119 | 20 => 147 | 21 => 148 | 22 => 149 | 23 => 150 | 24 => 151 | 25 => 152 | 26 => 153 | 27 => 154 | 28 => 155 | 29 => 156 | 46 => 163 | 47 => 164 | 48 => 165 | 49 => 166 | 50 => 167 | 57 => 170 | n => n, fun x => match x with | 22 => 37 | 24 => 36 | 25 => 128 | 3 => 3 | 39 => 136 | 0 => 0 | 53 => 191 | 55 => 193 | 4 => 4 | 46 => 184 | 45 => 183 | 50 => 188 | 5 => 5 | 9 => 9 | 66 => 198 | 70 => 202 | 76 => 206 | 77 => 207 | n => n, fun n => n⟩
theorem sortLays : SlLaysF0.n6 Try.prog sortRen where
  mixed := by kernel_rfl
  f6 := ⟨Try.f75.name, by kernel_rfl, Try.func75.trans (congrArg some (by kernel_rfl))⟩
  f14 := ⟨Try.f118.name, by kernel_rfl, Try.func118.trans (congrArg some (by kernel_rfl))⟩
  f15 := Try.func119.trans (congrArg some (by kernel_rfl))
  f20 := ⟨Try.f147.name, by kernel_rfl, Try.func147.trans (congrArg some (by kernel_rfl))⟩
  f21 := ⟨Try.f148.name, by kernel_rfl, Try.func148.trans (congrArg some (by kernel_rfl))⟩
  f22 := ⟨Try.f149.name, by kernel_rfl, Try.func149.trans (congrArg some (by kernel_rfl))⟩
  f23 := ⟨Try.f150.name, by kernel_rfl, Try.func150.trans (congrArg some (by kernel_rfl))⟩
  f24 := ⟨Try.f151.name, by kernel_rfl, Try.func151.trans (congrArg some (by kernel_rfl))⟩
  f25 := ⟨Try.f152.name, by kernel_rfl, Try.func152.trans (congrArg some (by kernel_rfl))⟩
  f26 := ⟨Try.f153.name, by kernel_rfl, Try.func153.trans (congrArg some (by kernel_rfl))⟩
  f27 := ⟨Try.f154.name, by kernel_rfl, Try.func154.trans (congrArg some (by kernel_rfl))⟩
  f28 := Try.func155.trans (congrArg some (by kernel_rfl))
  f29 := Try.func156.trans (congrArg some (by kernel_rfl))
  f46 := ⟨Try.f163.name, by kernel_rfl, Try.func163.trans (congrArg some (by kernel_rfl))⟩
  f47 := Try.func164.trans (congrArg some (by kernel_rfl))
  f48 := Try.func165.trans (congrArg some (by kernel_rfl))
  f49 := ⟨Try.f166.name, by kernel_rfl, Try.func166.trans (congrArg some (by kernel_rfl))⟩
  f50 := ⟨Try.f167.name, by kernel_rfl, Try.func167.trans (congrArg some (by kernel_rfl))⟩
  f57 := ⟨Try.f170.name, by kernel_rfl, Try.func170.trans (congrArg some (by kernel_rfl))⟩
  t0 := Try.underlying0
  a0 := Try.isAgg0
  z0 := Try.sizeOf0
  v0 := Try.zeroValue0
  t3 := Try.underlying3
  a3 := Try.isAgg3
  z3 := Try.sizeOf3
  v3 := Try.zeroValue3
  t4 := Try.underlying4
  a4 := Try.isAgg4
  z4 := Try.sizeOf4
  v4 := Try.zeroValue4
  t5 := Try.underlying5
  a5 := Try.isAgg5
  z5 := Try.sizeOf5
  v5 := Try.zeroValue5
  t9 := Try.underlying9
  a9 := Try.isAgg9
  z9 := Try.sizeOf9
  v9 := Try.zeroValue9
  t22 := Try.underlying37
  a22 := Try.isAgg37
  z22 := Try.sizeOf37
  v22 := Try.zeroValue37
  t25 := Try.underlying128
  a25 := Try.isAgg128
  z25 := Try.sizeOf128
  v25 := Try.zeroValue128
  t39 := Try.underlying136
  a39 := Try.isAgg136
  z39 := Try.sizeOf136
  v39 := Try.zeroValue136
  t45 := Try.underlying183
  a45 := Try.isAgg183
  z45 := Try.sizeOf183
  v45 := Try.zeroValue183
  t46 := Try.underlying184
  a46 := Try.isAgg184
  z46 := Try.sizeOf184
  v46 := Try.zeroValue184
  t50 := Try.underlying188
  a50 := Try.isAgg188
  z50 := Try.sizeOf188
  v50 := Try.zeroValue188
  t53 := Try.underlying191
  a53 := Try.isAgg191
  z53 := Try.sizeOf191
  v53 := Try.zeroValue191
  t55 := Try.underlying193
  a55 := Try.isAgg193
  z55 := Try.sizeOf193
  v55 := Try.zeroValue193
  t66 := Try.underlying198
  a66 := Try.isAgg198
  z66 := Try.sizeOf198
  v66 := Try.zeroValue198
  t70 := Try.underlying202
  a70 := Try.isAgg202
  z70 := Try.sizeOf202
  v70 := Try.zeroValue202
  t76 := Try.underlying206
  a76 := Try.isAgg206
  z76 := Try.sizeOf206
  v76 := Try.zeroValue206
  t77 := Try.underlying207
  a77 := Try.isAgg207
  z77 := Try.sizeOf207
  v77 := Try.zeroValue207
end Go.Proofs.Ytdbbmjdeeenlhaa
