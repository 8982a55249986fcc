/-
  DERIVED: THE SHELF's CONTRACTS AT THIS DUMP, IN PLAIN WORDS (tools/lay-plain.mjs out of 'TryzMore2.lean', which tools/lay-shelf.mjs wrote): THE SAME DECLARATIONS UNDER THE SAME NAMES: 'import', 'namespace', 'open', 'def', 'theorem' AND NOTHING ELSE: no command of the shelf's: FOR A HAND-IN. Each laying: the table of numbers ('.._ren') and one theorem, a field a fact of the dump's own or the kernel's comparison; each contract: ONE APPLICATION.
-/
import Derived.Shelf.SlSortCmp.WholeK
import Derived.Ground.SlsfProg
import Derived.Shelf.SlGeneric
import Derived.Test.YtapbhoodgnmnkaaGreatDoorProg
namespace Go.Proofs
open Go.Shelf
def Tryz.pdqSel_ren : Go.Shelf.Ren := ⟨fun | 14 => 109 | 20 => 148 | 21 => 149 | 22 => 150 | 23 => 151 | 24 => 152 | 25 => 153 | 26 => 154 | 27 => 155 | 46 => 177 | 47 => 157 | 48 => 158 | 49 => 178 | 50 => 179 | 15 => 80 | 57 => 190 | 28 => 119 | 29 => 120 | n => n, fun | 24 => 53 | 22 => 26 | 3 => 3 | 25 => 127 | 4 => 4 | 0 => 0 | 46 => 162 | 45 => 161 | 50 => 135 | 66 => 202 | 39 => 130 | 55 => 170 | 70 => 206 | 76 => 222 | 77 => 223 | 53 => 168 | 5 => 5 | 9 => 9 | n => n, fun | n => n⟩
theorem Tryz.pdqSel : Go.Proofs.SlLaysF0.n14 Tryz.prog Tryz.pdqSel_ren := {
  mixed := by kernel_rfl
  f14 := ⟨Tryz.f109.name, by decide, Tryz.func109.trans (congrArg some (by kernel_rfl))⟩
  f15 := Tryz.func80.trans (congrArg some (by kernel_rfl))
  f20 := ⟨Tryz.f148.name, by decide, Tryz.func148.trans (congrArg some (by kernel_rfl))⟩
  f21 := ⟨Tryz.f149.name, by decide, Tryz.func149.trans (congrArg some (by kernel_rfl))⟩
  f22 := ⟨Tryz.f150.name, by decide, Tryz.func150.trans (congrArg some (by kernel_rfl))⟩
  f23 := ⟨Tryz.f151.name, by decide, Tryz.func151.trans (congrArg some (by kernel_rfl))⟩
  f24 := ⟨Tryz.f152.name, by decide, Tryz.func152.trans (congrArg some (by kernel_rfl))⟩
  f25 := ⟨Tryz.f153.name, by decide, Tryz.func153.trans (congrArg some (by kernel_rfl))⟩
  f26 := ⟨Tryz.f154.name, by decide, Tryz.func154.trans (congrArg some (by kernel_rfl))⟩
  f27 := ⟨Tryz.f155.name, by decide, Tryz.func155.trans (congrArg some (by kernel_rfl))⟩
  f28 := Tryz.func119.trans (congrArg some (by kernel_rfl))
  f29 := Tryz.func120.trans (congrArg some (by kernel_rfl))
  f46 := ⟨Tryz.f177.name, by decide, Tryz.func177.trans (congrArg some (by kernel_rfl))⟩
  f47 := Tryz.func157.trans (congrArg some (by kernel_rfl))
  f48 := Tryz.func158.trans (congrArg some (by kernel_rfl))
  f49 := ⟨Tryz.f178.name, by decide, Tryz.func178.trans (congrArg some (by kernel_rfl))⟩
  f50 := ⟨Tryz.f179.name, by decide, Tryz.func179.trans (congrArg some (by kernel_rfl))⟩
  f57 := ⟨Tryz.f190.name, by decide, Tryz.func190.trans (congrArg some (by kernel_rfl))⟩
  t0 := Tryz.underlying0
  a0 := Tryz.isAgg0
  z0 := Tryz.sizeOf0
  v0 := Tryz.zeroValue0
  t3 := Tryz.underlying3
  a3 := Tryz.isAgg3
  z3 := Tryz.sizeOf3
  v3 := Tryz.zeroValue3
  t4 := Tryz.underlying4
  a4 := Tryz.isAgg4
  z4 := Tryz.sizeOf4
  v4 := Tryz.zeroValue4
  t5 := Tryz.underlying5
  a5 := Tryz.isAgg5
  z5 := Tryz.sizeOf5
  v5 := Tryz.zeroValue5
  t9 := Tryz.underlying9
  a9 := Tryz.isAgg9
  z9 := Tryz.sizeOf9
  v9 := Tryz.zeroValue9
  t22 := Tryz.underlying26
  a22 := Tryz.isAgg26
  z22 := Tryz.sizeOf26
  v22 := Tryz.zeroValue26
  t25 := Tryz.underlying127
  a25 := Tryz.isAgg127
  z25 := Tryz.sizeOf127
  v25 := Tryz.zeroValue127
  t39 := Tryz.underlying130
  a39 := Tryz.isAgg130
  z39 := Tryz.sizeOf130
  v39 := Tryz.zeroValue130
  t45 := Tryz.underlying161
  a45 := Tryz.isAgg161
  z45 := Tryz.sizeOf161
  v45 := Tryz.zeroValue161
  t46 := Tryz.underlying162
  a46 := Tryz.isAgg162
  z46 := Tryz.sizeOf162
  v46 := Tryz.zeroValue162
  t50 := Tryz.underlying135
  a50 := Tryz.isAgg135
  z50 := Tryz.sizeOf135
  v50 := Tryz.zeroValue135
  t53 := Tryz.underlying168
  a53 := Tryz.isAgg168
  z53 := Tryz.sizeOf168
  v53 := Tryz.zeroValue168
  t55 := Tryz.underlying170
  a55 := Tryz.isAgg170
  z55 := Tryz.sizeOf170
  v55 := Tryz.zeroValue170
  t66 := Tryz.underlying202
  a66 := Tryz.isAgg202
  z66 := Tryz.sizeOf202
  v66 := Tryz.zeroValue202
  t70 := Tryz.underlying206
  a70 := Tryz.isAgg206
  z70 := Tryz.sizeOf206
  v70 := Tryz.zeroValue206
  t76 := Tryz.underlying222
  a76 := Tryz.isAgg222
  z76 := Tryz.sizeOf222
  v76 := Tryz.zeroValue222
  t77 := Tryz.underlying223
  a77 := Tryz.isAgg223
  z77 := Tryz.sizeOf223
  v77 := Tryz.zeroValue223 }
end Go.Proofs
