/-
  DERIVED: THE SHELF's CONTRACTS AT THIS DUMP, IN PLAIN WORDS (tools/lay-plain.mjs out of 'TryzMore.lean', which tools/lay-shelf.mjs wrote): THE SAME DECLARATIONS UNDER THE SAME NAMES: 'import', 'namespace', 'open', 'def', 'theorem' AND NOTHING ELSE: no command of the shelf's: FOR A HAND-IN. Each laying: the table of numbers ('.._ren') and one theorem, a field a fact of the dump's own or the kernel's comparison; each contract: ONE APPLICATION.
-/
import Derived.Shelf.SlSortCmp.WholeK
import Derived.Ground.SlsfProg
import Derived.Shelf.SlGeneric
import Derived.Test.YtbbnoloploklkaaGreatDoorProg
namespace Go.Proofs
open Go.Shelf
def Tryz.pdqSpan_ren : Go.Shelf.Ren := ⟨fun | 14 => 198 | 20 => 227 | 21 => 228 | 22 => 229 | 23 => 230 | 24 => 231 | 25 => 232 | 26 => 233 | 27 => 234 | 46 => 255 | 47 => 223 | 48 => 224 | 49 => 256 | 50 => 257 | 15 => 155 | 57 => 269 | 28 => 196 | 29 => 197 | n => n, fun | 24 => 139 | 22 => 55 | 3 => 3 | 25 => 196 | 4 => 4 | 0 => 0 | 46 => 218 | 45 => 217 | 50 => 103 | 66 => 241 | 39 => 192 | 55 => 226 | 70 => 245 | 76 => 262 | 77 => 263 | 53 => 224 | 5 => 5 | 9 => 9 | n => n, fun | n => n⟩
theorem Tryz.pdqSpan : Go.Proofs.SlLaysF0.n14 Tryz.prog Tryz.pdqSpan_ren := {
  mixed := by kernel_rfl
  f14 := ⟨Tryz.f198.name, by decide, Tryz.func198.trans (congrArg some (by kernel_rfl))⟩
  f15 := Tryz.func155.trans (congrArg some (by kernel_rfl))
  f20 := ⟨Tryz.f227.name, by decide, Tryz.func227.trans (congrArg some (by kernel_rfl))⟩
  f21 := ⟨Tryz.f228.name, by decide, Tryz.func228.trans (congrArg some (by kernel_rfl))⟩
  f22 := ⟨Tryz.f229.name, by decide, Tryz.func229.trans (congrArg some (by kernel_rfl))⟩
  f23 := ⟨Tryz.f230.name, by decide, Tryz.func230.trans (congrArg some (by kernel_rfl))⟩
  f24 := ⟨Tryz.f231.name, by decide, Tryz.func231.trans (congrArg some (by kernel_rfl))⟩
  f25 := ⟨Tryz.f232.name, by decide, Tryz.func232.trans (congrArg some (by kernel_rfl))⟩
  f26 := ⟨Tryz.f233.name, by decide, Tryz.func233.trans (congrArg some (by kernel_rfl))⟩
  f27 := ⟨Tryz.f234.name, by decide, Tryz.func234.trans (congrArg some (by kernel_rfl))⟩
  f28 := Tryz.func196.trans (congrArg some (by kernel_rfl))
  f29 := Tryz.func197.trans (congrArg some (by kernel_rfl))
  f46 := ⟨Tryz.f255.name, by decide, Tryz.func255.trans (congrArg some (by kernel_rfl))⟩
  f47 := Tryz.func223.trans (congrArg some (by kernel_rfl))
  f48 := Tryz.func224.trans (congrArg some (by kernel_rfl))
  f49 := ⟨Tryz.f256.name, by decide, Tryz.func256.trans (congrArg some (by kernel_rfl))⟩
  f50 := ⟨Tryz.f257.name, by decide, Tryz.func257.trans (congrArg some (by kernel_rfl))⟩
  f57 := ⟨Tryz.f269.name, by decide, Tryz.func269.trans (congrArg some (by kernel_rfl))⟩
  t0 := Tryz.underlying0
  a0 := Tryz.isAgg0
  z0 := Tryz.sizeOf0
  v0 := Tryz.zeroValue0
  t3 := Tryz.underlying3
  a3 := Tryz.isAgg3
  z3 := Tryz.sizeOf3
  v3 := Tryz.zeroValue3
  t4 := Tryz.underlying4
  a4 := Tryz.isAgg4
  z4 := Tryz.sizeOf4
  v4 := Tryz.zeroValue4
  t5 := Tryz.underlying5
  a5 := Tryz.isAgg5
  z5 := Tryz.sizeOf5
  v5 := Tryz.zeroValue5
  t9 := Tryz.underlying9
  a9 := Tryz.isAgg9
  z9 := Tryz.sizeOf9
  v9 := Tryz.zeroValue9
  t22 := Tryz.underlying55
  a22 := Tryz.isAgg55
  z22 := Tryz.sizeOf55
  v22 := Tryz.zeroValue55
  t25 := Tryz.underlying196
  a25 := Tryz.isAgg196
  z25 := Tryz.sizeOf196
  v25 := Tryz.zeroValue196
  t39 := Tryz.underlying192
  a39 := Tryz.isAgg192
  z39 := Tryz.sizeOf192
  v39 := Tryz.zeroValue192
  t45 := Tryz.underlying217
  a45 := Tryz.isAgg217
  z45 := Tryz.sizeOf217
  v45 := Tryz.zeroValue217
  t46 := Tryz.underlying218
  a46 := Tryz.isAgg218
  z46 := Tryz.sizeOf218
  v46 := Tryz.zeroValue218
  t50 := Tryz.underlying103
  a50 := Tryz.isAgg103
  z50 := Tryz.sizeOf103
  v50 := Tryz.zeroValue103
  t53 := Tryz.underlying224
  a53 := Tryz.isAgg224
  z53 := Tryz.sizeOf224
  v53 := Tryz.zeroValue224
  t55 := Tryz.underlying226
  a55 := Tryz.isAgg226
  z55 := Tryz.sizeOf226
  v55 := Tryz.zeroValue226
  t66 := Tryz.underlying241
  a66 := Tryz.isAgg241
  z66 := Tryz.sizeOf241
  v66 := Tryz.zeroValue241
  t70 := Tryz.underlying245
  a70 := Tryz.isAgg245
  z70 := Tryz.sizeOf245
  v70 := Tryz.zeroValue245
  t76 := Tryz.underlying262
  a76 := Tryz.isAgg262
  z76 := Tryz.sizeOf262
  v76 := Tryz.zeroValue262
  t77 := Tryz.underlying263
  a77 := Tryz.isAgg263
  z77 := Tryz.sizeOf263
  v77 := Tryz.zeroValue263 }
end Go.Proofs
