/-
 DERIVED: THE SHELF's CONTRACTS AT THIS DUMP, IN PLAIN WORDS (tools/lay-plain.mjs out of 'TryShelf.lean', which tools/lay-shelf.mjs wrote): THE SAME DECLARATIONS UNDER THE SAME NAMES: 'import', 'namespace', 'open', 'def', 'theorem' AND NOTHING ELSE: no command of the shelf's: FOR A HAND-IN. Each laying: the table of numbers ('.._ren') and one theorem, a field a fact of the dump's own or the kernel's comparison; each contract: ONE APPLICATION.
-/
import Derived.Shelf.Sort.Plain
import Derived.Shelf.Slices.In.SortNone
import Derived.Shelf.SlSortCmp.NoneTotal
import Derived.Ground.SlsfProg
import Derived.Test.YtcepchipgjpkhaaProg
namespace Go.Proofs
open Go.Shelf
def Try.laysF85_ren : Go.Shelf.Ren := ⟨fun | 6 => 85 | 15 => 94 | 14 => 112 | 28 => 124 | 29 => 125 | 20 => 137 | 21 => 138 | 22 => 139 | 23 => 140 | 24 => 141 | 25 => 142 | 26 => 143 | 27 => 144 | 46 => 158 | 47 => 146 | 48 => 147 | 49 => 159 | 50 => 160 | 57 => 165 | n => n, fun | 22 => 28 | 24 => 49 | 25 => 127 | 3 => 3 | 39 => 46 | 0 => 0 | 53 => 163 | 55 => 165 | 4 => 4 | 46 => 157 | 45 => 156 | 50 => 100 | 5 => 5 | 9 => 9 | 66 => 179 | 70 => 183 | 76 => 195 | 77 => 196 | n => n, fun | n => n⟩
theorem Try.laysF85 : Go.Proofs.SlLaysF0.n6 Try.prog Try.laysF85_ren := {
 mixed := by kernel_rfl
 f6 := ⟨Try.f85.name, by decide, Try.func85.trans (congrArg some (by kernel_rfl))⟩
 f14 := ⟨Try.f112.name, by decide, Try.func112.trans (congrArg some (by kernel_rfl))⟩
 f15 := Try.func94.trans (congrArg some (by kernel_rfl))
 f20 := ⟨Try.f137.name, by decide, Try.func137.trans (congrArg some (by kernel_rfl))⟩
 f21 := ⟨Try.f138.name, by decide, Try.func138.trans (congrArg some (by kernel_rfl))⟩
 f22 := ⟨Try.f139.name, by decide, Try.func139.trans (congrArg some (by kernel_rfl))⟩
 f23 := ⟨Try.f140.name, by decide, Try.func140.trans (congrArg some (by kernel_rfl))⟩
 f24 := ⟨Try.f141.name, by decide, Try.func141.trans (congrArg some (by kernel_rfl))⟩
 f25 := ⟨Try.f142.name, by decide, Try.func142.trans (congrArg some (by kernel_rfl))⟩
 f26 := ⟨Try.f143.name, by decide, Try.func143.trans (congrArg some (by kernel_rfl))⟩
 f27 := ⟨Try.f144.name, by decide, Try.func144.trans (congrArg some (by kernel_rfl))⟩
 f28 := Try.func124.trans (congrArg some (by kernel_rfl))
 f29 := Try.func125.trans (congrArg some (by kernel_rfl))
 f46 := ⟨Try.f158.name, by decide, Try.func158.trans (congrArg some (by kernel_rfl))⟩
 f47 := Try.func146.trans (congrArg some (by kernel_rfl))
 f48 := Try.func147.trans (congrArg some (by kernel_rfl))
 f49 := ⟨Try.f159.name, by decide, Try.func159.trans (congrArg some (by kernel_rfl))⟩
 f50 := ⟨Try.f160.name, by decide, Try.func160.trans (congrArg some (by kernel_rfl))⟩
 f57 := ⟨Try.f165.name, by decide, Try.func165.trans (congrArg some (by kernel_rfl))⟩
 t0 := Try.underlying0
 a0 := Try.isAgg0
 z0 := Try.sizeOf0
 v0 := Try.zeroValue0
 t3 := Try.underlying3
 a3 := Try.isAgg3
 z3 := Try.sizeOf3
 v3 := Try.zeroValue3
 t4 := Try.underlying4
 a4 := Try.isAgg4
 z4 := Try.sizeOf4
 v4 := Try.zeroValue4
 t5 := Try.underlying5
 a5 := Try.isAgg5
 z5 := Try.sizeOf5
 v5 := Try.zeroValue5
 t9 := Try.underlying9
 a9 := Try.isAgg9
 z9 := Try.sizeOf9
 v9 := Try.zeroValue9
 t22 := Try.underlying28
 a22 := Try.isAgg28
 z22 := Try.sizeOf28
 v22 := Try.zeroValue28
 t25 := Try.underlying127
 a25 := Try.isAgg127
 z25 := Try.sizeOf127
 v25 := Try.zeroValue127
 t39 := Try.underlying46
 a39 := Try.isAgg46
 z39 := Try.sizeOf46
 v39 := Try.zeroValue46
 t45 := Try.underlying156
 a45 := Try.isAgg156
 z45 := Try.sizeOf156
 v45 := Try.zeroValue156
 t46 := Try.underlying157
 a46 := Try.isAgg157
 z46 := Try.sizeOf157
 v46 := Try.zeroValue157
 t50 := Try.underlying100
 a50 := Try.isAgg100
 z50 := Try.sizeOf100
 v50 := Try.zeroValue100
 t53 := Try.underlying163
 a53 := Try.isAgg163
 z53 := Try.sizeOf163
 v53 := Try.zeroValue163
 t55 := Try.underlying165
 a55 := Try.isAgg165
 z55 := Try.sizeOf165
 v55 := Try.zeroValue165
 t66 := Try.underlying179
 a66 := Try.isAgg179
 z66 := Try.sizeOf179
 v66 := Try.zeroValue179
 t70 := Try.underlying183
 a70 := Try.isAgg183
 z70 := Try.sizeOf183
 v70 := Try.zeroValue183
 t76 := Try.underlying195
 a76 := Try.isAgg195
 z76 := Try.sizeOf195
 v76 := Try.zeroValue195
 t77 := Try.underlying196
 a77 := Try.isAgg196
 z77 := Try.sizeOf196
 v77 := Try.zeroValue196 }
end Go.Proofs
