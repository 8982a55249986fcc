/-
  DERIVED: THE SHELF's CONTRACTS AT THIS DUMP, IN PLAIN WORDS (tools/lay-plain.mjs out of 'TryzShelf.lean', which tools/lay-shelf.mjs wrote): THE SAME DECLARATIONS UNDER THE SAME NAMES: 'import', 'namespace', 'open', 'def', 'theorem' AND NOTHING ELSE: no command of the shelf's: FOR A HAND-IN. Each laying: the table of numbers ('.._ren') and one theorem, a field a fact of the dump's own or the kernel's comparison; each contract: ONE APPLICATION.
-/
import Derived.Shelf.Small.Bits
import Derived.Shelf.Small.Wraps
import Derived.Shelf.Utf8.RuneCount
import Derived.Shelf.Strconv.Itoa0
import Derived.Shelf.Strings.Search1
import Derived.Shelf.Strings.Search2
import Derived.Shelf.Strings.Search3
import Derived.Shelf.Strings.Count
import Derived.Shelf.LaysM
import Derived.Shelf.Strings.Shaped
import Derived.Shelf.Sort.Plain
import Derived.Shelf.Strings.LastIndex
import Derived.Shelf.Strings.LastIndexAll
import Derived.Shelf.Strings.Prefix
import Derived.Shelf.Strings.Split
import Derived.Shelf.Strings.SplitShaped
import Derived.Shelf.Unicode.Decode
import Derived.Shelf.Strings.RuneCount
import Derived.Shelf.Strings.Explode
import Derived.Shelf.Bits.Mul64
import Derived.Shelf.Unicode.DecodeSlow
import Derived.Shelf.Unicode.DecodeAny
import Derived.Shelf.Slices.Equal
import Derived.Ground.Names2Prog
import Derived.Shelf.Slices.Clone
import Derived.Shelf.Slices.CompactI
import Derived.Shelf.Slices.SearchI
import Derived.Shelf.Slices.Cells
import Derived.Shelf.Slices.In.SortNone
import Derived.Shelf.Slices.Empties2
import Derived.Ground.SlgnProg
import Derived.Shelf.SlicesE.Equal
import Derived.Shelf.SlicesE.Clone
import Derived.Ground.SlgfProg
import Derived.Shelf.SlicesE.IndexFunc
import Derived.Test.YtbbnoloploklkaaGreatDoorProg
namespace Go.Proofs
open Go.Shelf
def Tryz.lays125_ren : Go.Shelf.Ren := ⟨fun | 125 => 155 | 128 => 196 | 129 => 197 | n => n, fun | 46 => 192 | 3 => 3 | 51 => 224 | 53 => 226 | 4 => 4 | 5 => 5 | 9 => 9 | n => n, fun | n => n⟩
theorem Tryz.lays125 : Go.Proofs.Lays.n125 Tryz.prog Tryz.lays125_ren := {
  mixed := by kernel_rfl
  f125 := Tryz.func155.trans (congrArg some (by kernel_rfl))
  f128 := Tryz.func196.trans (congrArg some (by kernel_rfl))
  f129 := Tryz.func197.trans (congrArg some (by kernel_rfl))
  t3 := Tryz.underlying3
  a3 := Tryz.isAgg3
  z3 := Tryz.sizeOf3
  v3 := Tryz.zeroValue3
  t4 := Tryz.underlying4
  a4 := Tryz.isAgg4
  z4 := Tryz.sizeOf4
  v4 := Tryz.zeroValue4
  t5 := Tryz.underlying5
  a5 := Tryz.isAgg5
  z5 := Tryz.sizeOf5
  v5 := Tryz.zeroValue5
  t9 := Tryz.underlying9
  a9 := Tryz.isAgg9
  z9 := Tryz.sizeOf9
  v9 := Tryz.zeroValue9
  t46 := Tryz.underlying192
  a46 := Tryz.isAgg192
  z46 := Tryz.sizeOf192
  v46 := Tryz.zeroValue192
  t51 := Tryz.underlying224
  a51 := Tryz.isAgg224
  z51 := Tryz.sizeOf224
  v51 := Tryz.zeroValue224
  t53 := Tryz.underlying226
  a53 := Tryz.isAgg226
  z53 := Tryz.sizeOf226
  v53 := Tryz.zeroValue226 }
theorem Tryz.bits_Len (x : Int) (w : World) (h0 : 0 ≤ x) (h1 : x ≤ 18446744073709551615) :
    Calls Tryz.prog 155 #[.int .u64 x] w fun e w' => e = .returned (.int .i64 (Lib.bitLen x.toNat)) ∧ w' = w := Any.bits_Len Tryz.lays125 x w h0 h1
def Tryz.lays103_ren : Go.Shelf.Ren := ⟨fun | 103 => 262 | 210 => 273 | 206 => 283 | n => n, fun | 9 => 9 | 4 => 4 | 24 => 273 | 3 => 3 | n => n, fun | n => n⟩
theorem Tryz.lays103 : Go.Proofs.Lays.n103 Tryz.prog Tryz.lays103_ren := {
  mixed := by kernel_rfl
  f103 := Tryz.func262.trans (congrArg some (by kernel_rfl))
  f206 := Tryz.func283.trans (congrArg some (by kernel_rfl))
  f210 := Tryz.func273.trans (congrArg some (by kernel_rfl))
  t3 := Tryz.underlying3
  a3 := Tryz.isAgg3
  z3 := Tryz.sizeOf3
  v3 := Tryz.zeroValue3
  t4 := Tryz.underlying4
  a4 := Tryz.isAgg4
  z4 := Tryz.sizeOf4
  v4 := Tryz.zeroValue4
  t9 := Tryz.underlying9
  a9 := Tryz.isAgg9
  z9 := Tryz.sizeOf9
  v9 := Tryz.zeroValue9
  t24 := Tryz.underlying273
  a24 := Tryz.isAgg273
  z24 := Tryz.sizeOf273
  v24 := Tryz.zeroValue273 }
open Go.RowKit in
theorem Tryz.strings_CutPrefix (s p : ByteArray) (w : World) :
    Calls Tryz.prog 262 #[.string s, .string p] w fun e w' => e = .returned (.tuple #[.string ⟨(Lib.trimPrefix s.data.toList p.data.toList).toArray⟩, .bool (Lib.hasPrefix s.data.toList p.data.toList)]) ∧ w' = w := Any.strings_CutPrefix Tryz.lays103 s p w
def Tryz.lays144_ren : Go.Shelf.Ren := ⟨fun | 144 => 275 | 143 => 272 | 219 => 282 | 217 => 286 | 225 => 287 | 224 => 288 | 267 => 289 | 266 => 291 | 314 => 292 | n => n, fun | 9 => 9 | 4 => 4 | 3 => 3 | 5 => 5 | 46 => 192 | 146 => 267 | 51 => 224 | n => n, fun | 1 => 0 | n => n⟩
theorem Tryz.lays144 : Go.Proofs.Lays.n144 Tryz.prog Tryz.lays144_ren := {
  mixed := by kernel_rfl
  f143 := Tryz.func272.trans (congrArg some (by kernel_rfl))
  f144 := Tryz.func275.trans (congrArg some (by kernel_rfl))
  f217 := Tryz.func286.trans (congrArg some (by kernel_rfl))
  f219 := Tryz.func282.trans (congrArg some (by kernel_rfl))
  f224 := Tryz.func288.trans (congrArg some (by kernel_rfl))
  f225 := Tryz.func287.trans (congrArg some (by kernel_rfl))
  f266 := Tryz.func291.trans (congrArg some (by kernel_rfl))
  f267 := Tryz.func289.trans (congrArg some (by kernel_rfl))
  f314 := Tryz.func292.trans (congrArg some (by kernel_rfl))
  t3 := Tryz.underlying3
  a3 := Tryz.isAgg3
  z3 := Tryz.sizeOf3
  v3 := Tryz.zeroValue3
  t4 := Tryz.underlying4
  a4 := Tryz.isAgg4
  z4 := Tryz.sizeOf4
  v4 := Tryz.zeroValue4
  t5 := Tryz.underlying5
  a5 := Tryz.isAgg5
  z5 := Tryz.sizeOf5
  v5 := Tryz.zeroValue5
  t9 := Tryz.underlying9
  a9 := Tryz.isAgg9
  z9 := Tryz.sizeOf9
  v9 := Tryz.zeroValue9
  t46 := Tryz.underlying192
  a46 := Tryz.isAgg192
  z46 := Tryz.sizeOf192
  v46 := Tryz.zeroValue192
  t51 := Tryz.underlying224
  a51 := Tryz.isAgg224
  z51 := Tryz.sizeOf224
  v51 := Tryz.zeroValue224
  t146 := Tryz.underlying267
  a146 := Tryz.isAgg267
  z146 := Tryz.sizeOf267
  v146 := Tryz.zeroValue267
  g1 := by kernel_rfl }
open Go.RowKit Go.Lib in
theorem Tryz.strings_Contains (s sub : ByteArray) (m : Int) (w : World) (hs : s.size < 4294967281) (hm : w.cell? ⟨0, 0, none⟩ = some (.int .i64 m)) :
    Calls Tryz.prog 275 #[.string s, .string sub] w fun e w' => e = .returned (.bool (Lib.contains s.data.toList sub.data.toList)) ∧ w' = w := Any.strings_Contains Tryz.lays144 s sub m w hs hm
def Tryz.lays189_ren : Go.Shelf.Ren := ⟨fun | 189 => 130 | 125 => 155 | 257 => 176 | 128 => 196 | 129 => 197 | 294 => 205 | 295 => 206 | 296 => 207 | 297 => 208 | 298 => 209 | 299 => 210 | 216 => 211 | 300 => 212 | 301 => 213 | 328 => 238 | 329 => 223 | 330 => 224 | 331 => 239 | 332 => 240 | 215 => 241 | 343 => 260 | n => n, fun | 28 => 86 | 3 => 3 | 46 => 192 | 0 => 0 | 51 => 224 | 53 => 226 | 4 => 4 | 183 => 218 | 182 => 217 | 131 => 103 | 5 => 5 | 9 => 9 | 218 => 241 | 222 => 245 | 228 => 262 | 229 => 263 | n => n, fun | n => n⟩
theorem Tryz.lays189 : Go.Proofs.Lays.n189 Tryz.prog Tryz.lays189_ren := {
  mixed := by kernel_rfl
  f125 := Tryz.func155.trans (congrArg some (by kernel_rfl))
  f128 := Tryz.func196.trans (congrArg some (by kernel_rfl))
  f129 := Tryz.func197.trans (congrArg some (by kernel_rfl))
  f189 := Tryz.func130.trans (congrArg some (by kernel_rfl))
  f215 := Tryz.func241.trans (congrArg some (by kernel_rfl))
  f216 := Tryz.func211.trans (congrArg some (by kernel_rfl))
  f257 := Tryz.func176.trans (congrArg some (by kernel_rfl))
  f294 := Tryz.func205.trans (congrArg some (by kernel_rfl))
  f295 := Tryz.func206.trans (congrArg some (by kernel_rfl))
  f296 := Tryz.func207.trans (congrArg some (by kernel_rfl))
  f297 := Tryz.func208.trans (congrArg some (by kernel_rfl))
  f298 := Tryz.func209.trans (congrArg some (by kernel_rfl))
  f299 := Tryz.func210.trans (congrArg some (by kernel_rfl))
  f300 := Tryz.func212.trans (congrArg some (by kernel_rfl))
  f301 := Tryz.func213.trans (congrArg some (by kernel_rfl))
  f328 := Tryz.func238.trans (congrArg some (by kernel_rfl))
  f329 := Tryz.func223.trans (congrArg some (by kernel_rfl))
  f330 := Tryz.func224.trans (congrArg some (by kernel_rfl))
  f331 := Tryz.func239.trans (congrArg some (by kernel_rfl))
  f332 := Tryz.func240.trans (congrArg some (by kernel_rfl))
  f343 := Tryz.func260.trans (congrArg some (by kernel_rfl))
  t0 := Tryz.underlying0
  a0 := Tryz.isAgg0
  z0 := Tryz.sizeOf0
  v0 := Tryz.zeroValue0
  t3 := Tryz.underlying3
  a3 := Tryz.isAgg3
  z3 := Tryz.sizeOf3
  v3 := Tryz.zeroValue3
  t4 := Tryz.underlying4
  a4 := Tryz.isAgg4
  z4 := Tryz.sizeOf4
  v4 := Tryz.zeroValue4
  t5 := Tryz.underlying5
  a5 := Tryz.isAgg5
  z5 := Tryz.sizeOf5
  v5 := Tryz.zeroValue5
  t9 := Tryz.underlying9
  a9 := Tryz.isAgg9
  z9 := Tryz.sizeOf9
  v9 := Tryz.zeroValue9
  t28 := Tryz.underlying86
  a28 := Tryz.isAgg86
  z28 := Tryz.sizeOf86
  v28 := Tryz.zeroValue86
  t46 := Tryz.underlying192
  a46 := Tryz.isAgg192
  z46 := Tryz.sizeOf192
  v46 := Tryz.zeroValue192
  t51 := Tryz.underlying224
  a51 := Tryz.isAgg224
  z51 := Tryz.sizeOf224
  v51 := Tryz.zeroValue224
  t53 := Tryz.underlying226
  a53 := Tryz.isAgg226
  z53 := Tryz.sizeOf226
  v53 := Tryz.zeroValue226
  t131 := Tryz.underlying103
  a131 := Tryz.isAgg103
  z131 := Tryz.sizeOf103
  v131 := Tryz.zeroValue103
  t182 := Tryz.underlying217
  a182 := Tryz.isAgg217
  z182 := Tryz.sizeOf217
  v182 := Tryz.zeroValue217
  t183 := Tryz.underlying218
  a183 := Tryz.isAgg218
  z183 := Tryz.sizeOf218
  v183 := Tryz.zeroValue218
  t218 := Tryz.underlying241
  a218 := Tryz.isAgg241
  z218 := Tryz.sizeOf241
  v218 := Tryz.zeroValue241
  t222 := Tryz.underlying245
  a222 := Tryz.isAgg245
  z222 := Tryz.sizeOf245
  v222 := Tryz.zeroValue245
  t228 := Tryz.underlying262
  a228 := Tryz.isAgg262
  z228 := Tryz.sizeOf262
  v228 := Tryz.zeroValue262
  t229 := Tryz.underlying263
  a229 := Tryz.isAgg263
  z229 := Tryz.sizeOf263
  v229 := Tryz.zeroValue263 }
open Go.Sort Go.RowKit in
theorem Tryz.slices_Sort_int (blk off cap : Nat) (zs : List Int) (w : World) (hH : Holds (Value.int .i64) w blk off zs.toArray) (hblk : blk < w.heap.size) (hsz : zs.length < 4611686018427387904) :
    Calls Tryz.prog 130 #[.slice (some ⟨blk, off, none⟩) zs.length cap] w fun e w' =>
      e = .returned (.tuple #[]) ∧ ∃ n os, w' = grow (putRow (Value.int .i64) (Sort.ahead w n) blk off (zs.mergeSort fun x y => decide (x ≤ y)).toArray) os := Any.slices_Sort_int Tryz.lays189 blk off cap zs w hH hblk hsz
def Tryz.lays148_ren : Go.Shelf.Ren := ⟨fun | 148 => 216 | 222 => 249 | 223 => 250 | 269 => 265 | n => n, fun | 9 => 9 | 3 => 3 | 4 => 4 | 5 => 5 | 146 => 267 | 51 => 224 | 46 => 192 | n => n, fun | n => n⟩
theorem Tryz.lays148 : Go.Proofs.Lays.n148 Tryz.prog Tryz.lays148_ren := {
  mixed := by kernel_rfl
  f148 := Tryz.func216.trans (congrArg some (by kernel_rfl))
  f222 := Tryz.func249.trans (congrArg some (by kernel_rfl))
  f223 := Tryz.func250.trans (congrArg some (by kernel_rfl))
  f269 := Tryz.func265.trans (congrArg some (by kernel_rfl))
  t3 := Tryz.underlying3
  a3 := Tryz.isAgg3
  z3 := Tryz.sizeOf3
  v3 := Tryz.zeroValue3
  t4 := Tryz.underlying4
  a4 := Tryz.isAgg4
  z4 := Tryz.sizeOf4
  v4 := Tryz.zeroValue4
  t5 := Tryz.underlying5
  a5 := Tryz.isAgg5
  z5 := Tryz.sizeOf5
  v5 := Tryz.zeroValue5
  t9 := Tryz.underlying9
  a9 := Tryz.isAgg9
  z9 := Tryz.sizeOf9
  v9 := Tryz.zeroValue9
  t46 := Tryz.underlying192
  a46 := Tryz.isAgg192
  z46 := Tryz.sizeOf192
  v46 := Tryz.zeroValue192
  t51 := Tryz.underlying224
  a51 := Tryz.isAgg224
  z51 := Tryz.sizeOf224
  v51 := Tryz.zeroValue224
  t146 := Tryz.underlying267
  a146 := Tryz.isAgg267
  z146 := Tryz.sizeOf267
  v146 := Tryz.zeroValue267 }
open Go.RowKit Go.Lib in
theorem Tryz.strings_LastIndex_one (s sub : ByteArray) (h1 : sub.size = 1) (hs : s.size < 4611686018427387904) (w : World) :
    Calls Tryz.prog 216 #[.string s, .string sub] w fun e w' => e = .returned (.int .i64 (Lib.lastIndexByte s ((sub[0]'(by omega)).toNat : Int))) ∧ w' = w := Any.strings_LastIndex_one Tryz.lays148 s sub h1 hs w
def Tryz.lays146_ren : Go.Shelf.Ren := ⟨fun | 146 => 242 | 221 => 261 | 268 => 270 | 138 => 271 | 143 => 272 | 195 => 279 | 197 => 280 | 218 => 281 | 219 => 282 | 260 => 285 | 217 => 286 | 225 => 287 | 224 => 288 | 267 => 289 | 266 => 291 | 314 => 292 | n => n, fun | 9 => 9 | 31 => 75 | 3 => 3 | 4 => 4 | 0 => 0 | 105 => 282 | 21 => 21 | 5 => 5 | 46 => 192 | 119 => 285 | 139 => 288 | 138 => 287 | 146 => 267 | 51 => 224 | n => n, fun | 1 => 0 | 3 => 1 | 4 => 2 | n => n⟩
theorem Tryz.lays146 : Go.Proofs.Lays.n146 Tryz.prog Tryz.lays146_ren := {
  mixed := by kernel_rfl
  f138 := Tryz.func271.trans (congrArg some (by kernel_rfl))
  f143 := Tryz.func272.trans (congrArg some (by kernel_rfl))
  f146 := Tryz.func242.trans (congrArg some (by kernel_rfl))
  f195 := Tryz.func279.trans (congrArg some (by kernel_rfl))
  f197 := Tryz.func280.trans (congrArg some (by kernel_rfl))
  f217 := Tryz.func286.trans (congrArg some (by kernel_rfl))
  f218 := Tryz.func281.trans (congrArg some (by kernel_rfl))
  f219 := Tryz.func282.trans (congrArg some (by kernel_rfl))
  f221 := Tryz.func261.trans (congrArg some (by kernel_rfl))
  f224 := Tryz.func288.trans (congrArg some (by kernel_rfl))
  f225 := Tryz.func287.trans (congrArg some (by kernel_rfl))
  f260 := Tryz.func285.trans (congrArg some (by kernel_rfl))
  f266 := Tryz.func291.trans (congrArg some (by kernel_rfl))
  f267 := Tryz.func289.trans (congrArg some (by kernel_rfl))
  f268 := Tryz.func270.trans (congrArg some (by kernel_rfl))
  f314 := Tryz.func292.trans (congrArg some (by kernel_rfl))
  t0 := Tryz.underlying0
  a0 := Tryz.isAgg0
  z0 := Tryz.sizeOf0
  v0 := Tryz.zeroValue0
  t3 := Tryz.underlying3
  a3 := Tryz.isAgg3
  z3 := Tryz.sizeOf3
  v3 := Tryz.zeroValue3
  t4 := Tryz.underlying4
  a4 := Tryz.isAgg4
  z4 := Tryz.sizeOf4
  v4 := Tryz.zeroValue4
  t5 := Tryz.underlying5
  a5 := Tryz.isAgg5
  z5 := Tryz.sizeOf5
  v5 := Tryz.zeroValue5
  t9 := Tryz.underlying9
  a9 := Tryz.isAgg9
  z9 := Tryz.sizeOf9
  v9 := Tryz.zeroValue9
  t21 := Tryz.underlying21
  a21 := Tryz.isAgg21
  z21 := Tryz.sizeOf21
  v21 := Tryz.zeroValue21
  t31 := Tryz.underlying75
  a31 := Tryz.isAgg75
  z31 := Tryz.sizeOf75
  v31 := Tryz.zeroValue75
  t46 := Tryz.underlying192
  a46 := Tryz.isAgg192
  z46 := Tryz.sizeOf192
  v46 := Tryz.zeroValue192
  t51 := Tryz.underlying224
  a51 := Tryz.isAgg224
  z51 := Tryz.sizeOf224
  v51 := Tryz.zeroValue224
  t105 := Tryz.underlying282
  a105 := Tryz.isAgg282
  z105 := Tryz.sizeOf282
  v105 := Tryz.zeroValue282
  t119 := Tryz.underlying285
  a119 := Tryz.isAgg285
  z119 := Tryz.sizeOf285
  t138 := Tryz.underlying287
  a138 := Tryz.isAgg287
  z138 := Tryz.sizeOf287
  v138 := Tryz.zeroValue287
  t139 := Tryz.underlying288
  a139 := Tryz.isAgg288
  z139 := Tryz.sizeOf288
  v139 := Tryz.zeroValue288
  t146 := Tryz.underlying267
  a146 := Tryz.isAgg267
  z146 := Tryz.sizeOf267
  v146 := Tryz.zeroValue267
  g1 := by kernel_rfl
  g3 := by kernel_rfl
  g4 := by kernel_rfl }
open Go.RowKit Go.Lib in
theorem Tryz.strings_Split (s sep : ByteArray) (m : Int) (w : World) (hs : s.size < 4294967281) (hm : w.cell? ⟨0, 0, none⟩ = some (.int .i64 m)) (h1 : 1 ≤ sep.size) :
    Calls Tryz.prog 242 #[.string s, .string sep] w fun e w' =>
      e = .returned (.slice (some ⟨w.heap.size, 0, none⟩) (Lib.countB s sep + 1) (Lib.countB s sep + 1)) ∧ w' = w.alloc (.cells ((Lib.splitB sep 0 (Lib.countB s sep) s).map Value.string).toArray 9) := Any.strings_Split Tryz.lays146 (by kernel_rfl) s sep m w hs hm h1
def Tryz.lays212_ren : Go.Shelf.Ren := ⟨fun | 212 => 237 | 263 => 258 | 264 => 259 | n => n, fun | 46 => 192 | 51 => 224 | 146 => 267 | 53 => 226 | 148 => 269 | n => n, fun | n => n⟩
theorem Tryz.lays212 : Go.Proofs.Lays.n212 Tryz.prog Tryz.lays212_ren := {
  mixed := by kernel_rfl
  f212 := Tryz.func237.trans (congrArg some (by kernel_rfl))
  f263 := Tryz.func258.trans (congrArg some (by kernel_rfl))
  f264 := Tryz.func259.trans (congrArg some (by kernel_rfl))
  t46 := Tryz.underlying192
  a46 := Tryz.isAgg192
  z46 := Tryz.sizeOf192
  v46 := Tryz.zeroValue192
  t51 := Tryz.underlying224
  a51 := Tryz.isAgg224
  z51 := Tryz.sizeOf224
  v51 := Tryz.zeroValue224
  t53 := Tryz.underlying226
  a53 := Tryz.isAgg226
  z53 := Tryz.sizeOf226
  v53 := Tryz.zeroValue226
  t146 := Tryz.underlying267
  a146 := Tryz.isAgg267
  z146 := Tryz.sizeOf267
  v146 := Tryz.zeroValue267
  t148 := Tryz.underlying269
  a148 := Tryz.isAgg269
  z148 := Tryz.sizeOf269
  v148 := Tryz.zeroValue269 }
open Go.RowKit Go.Lib in
theorem Tryz.bits_Mul (x y : Nat) (hx : x < 18446744073709551616) (hy : y < 18446744073709551616) (w : World) :
    Calls Tryz.prog 237 #[.int .u64 x, .int .u64 y] w fun e w' => e = .returned (.tuple #[.int .u64 ((x * y / 18446744073709551616 : Nat) : Int), .int .u64 ((x * y % 18446744073709551616 : Nat) : Int)]) ∧ w' = w := Any.bits_Mul Tryz.lays212 x y hx hy w
def Tryz.lays111_ren : Go.Shelf.Ren := ⟨fun | 111 => 114 | n => n, fun | 28 => 86 | 3 => 3 | 4 => 4 | 0 => 0 | n => n, fun | n => n⟩
theorem Tryz.lays111 : Go.Proofs.Lays.n111 Tryz.prog Tryz.lays111_ren := {
  mixed := by kernel_rfl
  f111 := Tryz.func114.trans (congrArg some (by kernel_rfl))
  t0 := Tryz.underlying0
  a0 := Tryz.isAgg0
  z0 := Tryz.sizeOf0
  v0 := Tryz.zeroValue0
  t3 := Tryz.underlying3
  a3 := Tryz.isAgg3
  z3 := Tryz.sizeOf3
  v3 := Tryz.zeroValue3
  t4 := Tryz.underlying4
  a4 := Tryz.isAgg4
  z4 := Tryz.sizeOf4
  v4 := Tryz.zeroValue4
  t28 := Tryz.underlying86
  a28 := Tryz.isAgg86
  z28 := Tryz.sizeOf86
  v28 := Tryz.zeroValue86 }
open Go.RowKit Go.Lib in
theorem Tryz.slices_Equal_int (b1 o1 n c b2 o2 m d : Nat) (xs ys : List Int) (w : World) (hx : n ≤ xs.length) (hy : m ≤ ys.length) (hbig : n ≤ 9223372036854775807) (hbig2 : m ≤ 9223372036854775807) (hc1 : ∀ j, j < xs.length → w.cell? ⟨b1, o1 + j, none⟩ = some (.int .i64 (xs.getD j 0))) (hc2 : ∀ j, j < ys.length → w.cell? ⟨b2, o2 + j, none⟩ = some (.int .i64 (ys.getD j 0))) :
    Calls Tryz.prog 114 #[.slice (some ⟨b1, o1, none⟩) n c, .slice (some ⟨b2, o2, none⟩) m d] w fun e w' => e = .returned (.bool (xs.take n == ys.take m)) ∧ ∃ q, w' = w.drewN q := Any.slices_Equal_int Tryz.lays111 b1 o1 n c b2 o2 m d xs ys w hx hy hbig hbig2 hc1 hc2
open Go.RowKit Go.Lib in
theorem Tryz.slices_Equal_int_empty (a1 a2 : Option Addr) (c m d : Nat) (w : World) (hbig2 : m ≤ 9223372036854775807) :
    Calls Tryz.prog 114 #[.slice a1 0 c, .slice a2 m d] w fun e w' => e = .returned (.bool (decide (m = 0))) ∧ w' = w := Any.slices_Equal_int_empty Tryz.lays111 a1 a2 c m d w hbig2
def Tryz.lays193_ren : Go.Shelf.Ren := ⟨fun | 193 => 51 | n => n, fun | 31 => 75 | 9 => 9 | 4 => 4 | 3 => 3 | 0 => 0 | n => n, fun | n => n⟩
theorem Tryz.lays193 : Go.Proofs.Lays.n193 Tryz.prog Tryz.lays193_ren := {
  mixed := by kernel_rfl
  f193 := Tryz.func51.trans (congrArg some (by kernel_rfl))
  t0 := Tryz.underlying0
  a0 := Tryz.isAgg0
  z0 := Tryz.sizeOf0
  v0 := Tryz.zeroValue0
  t3 := Tryz.underlying3
  a3 := Tryz.isAgg3
  z3 := Tryz.sizeOf3
  v3 := Tryz.zeroValue3
  t4 := Tryz.underlying4
  a4 := Tryz.isAgg4
  z4 := Tryz.sizeOf4
  v4 := Tryz.zeroValue4
  t9 := Tryz.underlying9
  a9 := Tryz.isAgg9
  z9 := Tryz.sizeOf9
  v9 := Tryz.zeroValue9
  t31 := Tryz.underlying75
  a31 := Tryz.isAgg75
  z31 := Tryz.sizeOf75
  v31 := Tryz.zeroValue75 }
open Go.RowKit Go.Lib in
theorem Tryz.slices_Equal_string (b1 o1 n c b2 o2 m d : Nat) (xs ys : List ByteArray) (w : World) (hx : n ≤ xs.length) (hy : m ≤ ys.length) (hbig : n ≤ 9223372036854775807) (hbig2 : m ≤ 9223372036854775807) (hc1 : ∀ j, j < xs.length → w.cell? ⟨b1, o1 + j, none⟩ = some (.string (xs.getD j ByteArray.empty))) (hc2 : ∀ j, j < ys.length → w.cell? ⟨b2, o2 + j, none⟩ = some (.string (ys.getD j ByteArray.empty))) :
    Calls Tryz.prog 51 #[.slice (some ⟨b1, o1, none⟩) n c, .slice (some ⟨b2, o2, none⟩) m d] w fun e w' => e = .returned (.bool (decide (xs.take n = ys.take m))) ∧ ∃ q, w' = w.drewN q := Any.slices_Equal_string Tryz.lays193 b1 o1 n c b2 o2 m d xs ys w hx hy hbig hbig2 hc1 hc2
open Go.RowKit Go.Lib in
theorem Tryz.slices_Equal_string_empty (a1 a2 : Option Addr) (c m d : Nat) (w : World) (hbig2 : m ≤ 9223372036854775807) :
    Calls Tryz.prog 51 #[.slice a1 0 c, .slice a2 m d] w fun e w' => e = .returned (.bool (decide (m = 0))) ∧ w' = w := Any.slices_Equal_string_empty Tryz.lays193 a1 a2 c m d w hbig2
def Tryz.laysNm216_ren : Go.Shelf.Ren := ⟨fun | 16 => 170 | n => n, fun | 24 => 75 | 9 => 9 | 4 => 4 | n => n, fun | n => n⟩
theorem Tryz.laysNm216 : Go.Proofs.Lays2.n16 Tryz.prog Tryz.laysNm216_ren := {
  mixed := by kernel_rfl
  f16 := Tryz.func170.trans (congrArg some (by kernel_rfl))
  t4 := Tryz.underlying4
  a4 := Tryz.isAgg4
  z4 := Tryz.sizeOf4
  v4 := Tryz.zeroValue4
  t9 := Tryz.underlying9
  a9 := Tryz.isAgg9
  z9 := Tryz.sizeOf9
  v9 := Tryz.zeroValue9
  t24 := Tryz.underlying75
  a24 := Tryz.isAgg75
  z24 := Tryz.sizeOf75
  v24 := Tryz.zeroValue75
  i9 := by kernel_rfl }
open Go.RowKit Go.Lib in
theorem Tryz.slices_Clone_string (b off n c : Nat) (zs : List ByteArray) (w : World) (hz : n ≤ zs.length) (hbig : n * 16 ≤ 140737488355328) (hc : ∀ j, j < zs.length → w.cell? ⟨b, off + j, none⟩ = some (.string (zs.getD j ByteArray.empty))) :
    Calls Tryz.prog 170 #[.slice (some ⟨b, off, none⟩) n c] w fun e w' => ∃ v', e = .returned v' ∧ w'.ownsRow w.heap.size 9 1 v' n ((zs.take n).map (Value.string)) ∧ v' ≠ .slice none 0 0 ∧ Below w.heap.size w w' := Any.slices_Clone_string Tryz.laysNm216 b off n c zs w hz hbig hc
open Go.RowKit Go.Lib in
theorem Tryz.slices_Clone_string_nil (n c : Nat) (w : World) :
    Calls Tryz.prog 170 #[.slice none n c] w fun e w' => e = .returned (.slice none 0 0) ∧ w' = w := Any.slices_Clone_string_nil Tryz.laysNm216 n c w
open Go.RowKit Go.Lib in
theorem Tryz.slices_Clone_string_zero (a : Addr) (c : Nat) (w : World) :
    Calls Tryz.prog 170 #[.slice (some a) 0 c] w fun e w' => ∃ v', e = .returned v' ∧ w'.ownsRow w.heap.size 9 1 v' 0 [] ∧ v' ≠ .slice none 0 0 ∧ Below w.heap.size w w' := Any.slices_Clone_string_zero Tryz.laysNm216 a c w
def Tryz.laysNm220_ren : Go.Shelf.Ren := ⟨fun | 20 => 174 | n => n, fun | 22 => 86 | 3 => 3 | 4 => 4 | 0 => 0 | n => n, fun | n => n⟩
theorem Tryz.laysNm220 : Go.Proofs.Lays2.n20 Tryz.prog Tryz.laysNm220_ren := {
  mixed := by kernel_rfl
  f20 := Tryz.func174.trans (congrArg some (by kernel_rfl))
  t0 := Tryz.underlying0
  a0 := Tryz.isAgg0
  z0 := Tryz.sizeOf0
  v0 := Tryz.zeroValue0
  t3 := Tryz.underlying3
  a3 := Tryz.isAgg3
  z3 := Tryz.sizeOf3
  v3 := Tryz.zeroValue3
  t4 := Tryz.underlying4
  a4 := Tryz.isAgg4
  z4 := Tryz.sizeOf4
  v4 := Tryz.zeroValue4
  t22 := Tryz.underlying86
  a22 := Tryz.isAgg86
  z22 := Tryz.sizeOf86
  v22 := Tryz.zeroValue86
  i3 := by kernel_rfl }
open Go.RowKit Go.Lib Go.Sort in
theorem Tryz.slices_Compact_int (blk off cap : Nat) (zs : List Int) (w : World) (hH : Holds (Value.int .i64) w blk off zs.toArray) (hsz : zs.length ≤ 9223372036854775807) (hcap : zs.length ≤ cap) :
    Calls Tryz.prog 174 #[.slice (some ⟨blk, off, none⟩) zs.length cap] w fun e w' => e = .returned (.slice (some ⟨blk, off, none⟩) (Lib.compact zs).length cap) ∧ ∃ q, w' = putRow (Value.int .i64) (Sort.ahead w q) blk off (Lib.compact zs ++ List.replicate (zs.length - (Lib.compact zs).length) 0).toArray := Any.slices_Compact_int Tryz.laysNm220 blk off cap zs w hH hsz hcap
open Go.RowKit Go.Lib Go.Sort in
theorem Tryz.slices_Compact_int_empty (a : Option Addr) (cap : Nat) (w : World) :
    Calls Tryz.prog 174 #[.slice a 0 cap] w fun e w' => e = .returned (.slice a 0 cap) ∧ w' = w := Any.slices_Compact_int_empty Tryz.laysNm220 a cap w
open Go.RowKit Go.Sort in
theorem Tryz.slices_Sort_int_none (p : Option Addr) (cap : Nat) (w : World) :
    Calls Tryz.prog 130 #[.slice p 0 cap] w fun e w' => e = .returned (.tuple #[]) ∧ w' = w := Any.slices_Sort_int_none Tryz.lays189 p cap w
open Go.RowKit Go.Lib in
theorem Tryz.slices_Equal_int_lens (a1 a2 : Option Addr) (n c m d : Nat) (w : World) (hnm : n ≠ m) :
    Calls Tryz.prog 114 #[.slice a1 n c, .slice a2 m d] w fun e w' => e = .returned (.bool false) ∧ w' = w := Any.slices_Equal_int_lens Tryz.lays111 a1 a2 n c m d w hnm
end Go.Proofs
