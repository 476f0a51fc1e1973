/-
  DERIVED: THE SHELF's CONTRACTS AT THIS DUMP, IN PLAIN WORDS (tools/lay-plain.mjs out of 'ZSf.lean', which tools/lay-shelf.mjs wrote): THE SAME DECLARATIONS UNDER THE SAME NAMES: 'import', 'namespace', 'open', 'def', 'theorem' AND NOTHING ELSE: no command of the shelf's: FOR A HAND-IN. Each laying: the table of numbers ('.._ren') and one theorem, a field a fact of the dump's own or the kernel's comparison; each contract: ONE APPLICATION.
-/
import Derived.Shelf.Sort.Plain
import Derived.Shelf.Slices.In.SortNone
import Derived.Ground.Names2Prog
import Derived.Test.YtnphdmiondccgaaDoorProg
namespace Go.Proofs
open Go.Shelf
def Tryd.lays189_ren : Go.Shelf.Ren := ⟨fun | 189 => 32 | 125 => 71 | 257 => 70 | 128 => 94 | 129 => 95 | 294 => 85 | 295 => 86 | 296 => 87 | 297 => 88 | 298 => 89 | 299 => 90 | 216 => 91 | 300 => 92 | 301 => 93 | 328 => 100 | 329 => 101 | 330 => 102 | 331 => 103 | 332 => 104 | 215 => 105 | 343 => 108 | n => n, fun | 28 => 32 | 3 => 3 | 46 => 141 | 0 => 0 | 51 => 167 | 53 => 68 | 4 => 4 | 183 => 161 | 182 => 160 | 131 => 104 | 5 => 5 | 9 => 9 | 218 => 172 | 222 => 175 | 228 => 179 | 229 => 180 | n => n, fun | n => n⟩
theorem Tryd.lays189 : Go.Proofs.Lays.n189 Tryd.prog Tryd.lays189_ren := {
  mixed := by kernel_rfl
  f125 := Tryd.func71.trans (congrArg some (by kernel_rfl))
  f128 := Tryd.func94.trans (congrArg some (by kernel_rfl))
  f129 := Tryd.func95.trans (congrArg some (by kernel_rfl))
  f189 := Tryd.func32.trans (congrArg some (by kernel_rfl))
  f215 := Tryd.func105.trans (congrArg some (by kernel_rfl))
  f216 := Tryd.func91.trans (congrArg some (by kernel_rfl))
  f257 := Tryd.func70.trans (congrArg some (by kernel_rfl))
  f294 := Tryd.func85.trans (congrArg some (by kernel_rfl))
  f295 := Tryd.func86.trans (congrArg some (by kernel_rfl))
  f296 := Tryd.func87.trans (congrArg some (by kernel_rfl))
  f297 := Tryd.func88.trans (congrArg some (by kernel_rfl))
  f298 := Tryd.func89.trans (congrArg some (by kernel_rfl))
  f299 := Tryd.func90.trans (congrArg some (by kernel_rfl))
  f300 := Tryd.func92.trans (congrArg some (by kernel_rfl))
  f301 := Tryd.func93.trans (congrArg some (by kernel_rfl))
  f328 := Tryd.func100.trans (congrArg some (by kernel_rfl))
  f329 := Tryd.func101.trans (congrArg some (by kernel_rfl))
  f330 := Tryd.func102.trans (congrArg some (by kernel_rfl))
  f331 := Tryd.func103.trans (congrArg some (by kernel_rfl))
  f332 := Tryd.func104.trans (congrArg some (by kernel_rfl))
  f343 := Tryd.func108.trans (congrArg some (by kernel_rfl))
  t0 := Tryd.underlying0
  a0 := Tryd.isAgg0
  z0 := Tryd.sizeOf0
  v0 := Tryd.zeroValue0
  t3 := Tryd.underlying3
  a3 := Tryd.isAgg3
  z3 := Tryd.sizeOf3
  v3 := Tryd.zeroValue3
  t4 := Tryd.underlying4
  a4 := Tryd.isAgg4
  z4 := Tryd.sizeOf4
  v4 := Tryd.zeroValue4
  t5 := Tryd.underlying5
  a5 := Tryd.isAgg5
  z5 := Tryd.sizeOf5
  v5 := Tryd.zeroValue5
  t9 := Tryd.underlying9
  a9 := Tryd.isAgg9
  z9 := Tryd.sizeOf9
  v9 := Tryd.zeroValue9
  t28 := Tryd.underlying32
  a28 := Tryd.isAgg32
  z28 := Tryd.sizeOf32
  v28 := Tryd.zeroValue32
  t46 := Tryd.underlying141
  a46 := Tryd.isAgg141
  z46 := Tryd.sizeOf141
  v46 := Tryd.zeroValue141
  t51 := Tryd.underlying167
  a51 := Tryd.isAgg167
  z51 := Tryd.sizeOf167
  v51 := Tryd.zeroValue167
  t53 := Tryd.underlying68
  a53 := Tryd.isAgg68
  z53 := Tryd.sizeOf68
  v53 := Tryd.zeroValue68
  t131 := Tryd.underlying104
  a131 := Tryd.isAgg104
  z131 := Tryd.sizeOf104
  v131 := Tryd.zeroValue104
  t182 := Tryd.underlying160
  a182 := Tryd.isAgg160
  z182 := Tryd.sizeOf160
  v182 := Tryd.zeroValue160
  t183 := Tryd.underlying161
  a183 := Tryd.isAgg161
  z183 := Tryd.sizeOf161
  v183 := Tryd.zeroValue161
  t218 := Tryd.underlying172
  a218 := Tryd.isAgg172
  z218 := Tryd.sizeOf172
  v218 := Tryd.zeroValue172
  t222 := Tryd.underlying175
  a222 := Tryd.isAgg175
  z222 := Tryd.sizeOf175
  v222 := Tryd.zeroValue175
  t228 := Tryd.underlying179
  a228 := Tryd.isAgg179
  z228 := Tryd.sizeOf179
  v228 := Tryd.zeroValue179
  t229 := Tryd.underlying180
  a229 := Tryd.isAgg180
  z229 := Tryd.sizeOf180
  v229 := Tryd.zeroValue180 }
open Go.RowKit Go.Sort Go.Lib in
/-- slices.Sort of ints -/
theorem Tryd.slices_Sort_int (blk off cap : Nat) (zs : List Int) (w : World) (hH : Holds (Value.int .i64) w blk off zs.toArray) (hblk : blk < w.heap.size) (hsz : zs.length < 4611686018427387904) :
    Calls Tryd.prog 32 #[.slice (some ⟨blk, off, none⟩) zs.length cap] w fun e w' =>
      e = .returned (.tuple #[]) ∧ ∃ n os, w' = grow (putRow (Value.int .i64) (Sort.ahead w n) blk off (zs.mergeSort fun x y => decide (x ≤ y)).toArray) os := Any.slices_Sort_int Tryd.lays189 blk off cap zs w hH hblk hsz
open Go.RowKit Go.Sort Go.Lib in
/-- slices.Sort of none -/
theorem Tryd.slices_Sort_int_none (p : Option Addr) (cap : Nat) (w : World) :
    Calls Tryd.prog 32 #[.slice p 0 cap] w fun e w' => e = .returned (.tuple #[]) ∧ w' = w := Any.slices_Sort_int_none Tryd.lays189 p cap w
end Go.Proofs
