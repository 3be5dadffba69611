/- Lemmas that the proof needs, part 18. -/
import Derived.Shelf.Small.Strs
import Derived.Shelf.SlSortCmp.NoneTotal
import Derived.Test.YtmafibbnojdpjaaProg
section
set_option maxRecDepth 100000
namespace Go.Proofs.Ytmafibbnojdpjaa.St
open Go.Shelf Go.Proofs
def sx106_ren : Go.Shelf.Ren := ⟨fun | 106 => 78 | 213 => 102 | 265 => 129 | n => n, fun | 9 => 9 | 3 => 3 | n => n, fun | n => n⟩
theorem sx106 : Go.Proofs.Lays.n106 Try.prog sx106_ren := {
  mixed := by kernel_rfl
  f106 := Try.func78.trans (congrArg some (by kernel_rfl))
  f213 := Try.func102.trans (congrArg some (by kernel_rfl))
  f265 := Try.func129.trans (congrArg some (by kernel_rfl))
  t3 := Try.underlying3
  a3 := Try.isAgg3
  z3 := Try.sizeOf3
  v3 := Try.zeroValue3
  t9 := Try.underlying9
  a9 := Try.isAgg9
  z9 := Try.sizeOf9
  v9 := Try.zeroValue9 }
def sxSort_ren : Go.Shelf.Ren := ⟨fun | 6 => 76 | 15 => 101 | 14 => 100 | 28 => 127 | 29 => 128 | 20 => 119 | 21 => 120 | 22 => 121 | 23 => 122 | 24 => 123 | 25 => 124 | 26 => 125 | 27 => 126 | 46 => 139 | 47 => 140 | 48 => 141 | 49 => 142 | 50 => 143 | 57 => 148 | n => n, fun | 22 => 22 | 24 => 31 | 25 => 131 | 3 => 3 | 39 => 148 | 0 => 0 | 53 => 184 | 55 => 147 | 4 => 4 | 46 => 178 | 45 => 177 | 50 => 50 | 5 => 5 | 9 => 9 | 66 => 192 | 70 => 196 | 76 => 201 | 77 => 202 | n => n, fun | n => n⟩
theorem sxSort : Go.Proofs.SlLaysF0.n6 Try.prog sxSort_ren := {
  mixed := by kernel_rfl
  f6 := ⟨Try.f76.name, by decide, Try.func76.trans (congrArg some (by kernel_rfl))⟩
  f14 := ⟨Try.f100.name, by decide, Try.func100.trans (congrArg some (by kernel_rfl))⟩
  f15 := Try.func101.trans (congrArg some (by kernel_rfl))
  f20 := ⟨Try.f119.name, by decide, Try.func119.trans (congrArg some (by kernel_rfl))⟩
  f21 := ⟨Try.f120.name, by decide, Try.func120.trans (congrArg some (by kernel_rfl))⟩
  f22 := ⟨Try.f121.name, by decide, Try.func121.trans (congrArg some (by kernel_rfl))⟩
  f23 := ⟨Try.f122.name, by decide, Try.func122.trans (congrArg some (by kernel_rfl))⟩
  f24 := ⟨Try.f123.name, by decide, Try.func123.trans (congrArg some (by kernel_rfl))⟩
  f25 := ⟨Try.f124.name, by decide, Try.func124.trans (congrArg some (by kernel_rfl))⟩
  f26 := ⟨Try.f125.name, by decide, Try.func125.trans (congrArg some (by kernel_rfl))⟩
  f27 := ⟨Try.f126.name, by decide, Try.func126.trans (congrArg some (by kernel_rfl))⟩
  f28 := Try.func127.trans (congrArg some (by kernel_rfl))
  f29 := Try.func128.trans (congrArg some (by kernel_rfl))
  f46 := ⟨Try.f139.name, by decide, Try.func139.trans (congrArg some (by kernel_rfl))⟩
  f47 := Try.func140.trans (congrArg some (by kernel_rfl))
  f48 := Try.func141.trans (congrArg some (by kernel_rfl))
  f49 := ⟨Try.f142.name, by decide, Try.func142.trans (congrArg some (by kernel_rfl))⟩
  f50 := ⟨Try.f143.name, by decide, Try.func143.trans (congrArg some (by kernel_rfl))⟩
  f57 := ⟨Try.f148.name, by decide, Try.func148.trans (congrArg some (by kernel_rfl))⟩
  t0 := Try.underlying0
  a0 := Try.isAgg0
  z0 := Try.sizeOf0
  v0 := Try.zeroValue0
  t3 := Try.underlying3
  a3 := Try.isAgg3
  z3 := Try.sizeOf3
  v3 := Try.zeroValue3
  t4 := Try.underlying4
  a4 := Try.isAgg4
  z4 := Try.sizeOf4
  v4 := Try.zeroValue4
  t5 := Try.underlying5
  a5 := Try.isAgg5
  z5 := Try.sizeOf5
  v5 := Try.zeroValue5
  t9 := Try.underlying9
  a9 := Try.isAgg9
  z9 := Try.sizeOf9
  v9 := Try.zeroValue9
  t22 := Try.underlying22
  a22 := Try.isAgg22
  z22 := Try.sizeOf22
  v22 := Try.zeroValue22
  t25 := Try.underlying131
  a25 := Try.isAgg131
  z25 := Try.sizeOf131
  v25 := Try.zeroValue131
  t39 := Try.underlying148
  a39 := Try.isAgg148
  z39 := Try.sizeOf148
  v39 := Try.zeroValue148
  t45 := Try.underlying177
  a45 := Try.isAgg177
  z45 := Try.sizeOf177
  v45 := Try.zeroValue177
  t46 := Try.underlying178
  a46 := Try.isAgg178
  z46 := Try.sizeOf178
  v46 := Try.zeroValue178
  t50 := Try.underlying50
  a50 := Try.isAgg50
  z50 := Try.sizeOf50
  v50 := Try.zeroValue50
  t53 := Try.underlying184
  a53 := Try.isAgg184
  z53 := Try.sizeOf184
  v53 := Try.zeroValue184
  t55 := Try.underlying147
  a55 := Try.isAgg147
  z55 := Try.sizeOf147
  v55 := Try.zeroValue147
  t66 := Try.underlying192
  a66 := Try.isAgg192
  z66 := Try.sizeOf192
  v66 := Try.zeroValue192
  t70 := Try.underlying196
  a70 := Try.isAgg196
  z70 := Try.sizeOf196
  v70 := Try.zeroValue196
  t76 := Try.underlying201
  a76 := Try.isAgg201
  z76 := Try.sizeOf201
  v76 := Try.zeroValue201
  t77 := Try.underlying202
  a77 := Try.isAgg202
  z77 := Try.sizeOf202
  v77 := Try.zeroValue202 }
end Go.Proofs.Ytmafibbnojdpjaa.St
end
