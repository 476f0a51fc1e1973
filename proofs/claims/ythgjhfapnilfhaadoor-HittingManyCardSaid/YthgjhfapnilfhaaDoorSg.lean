/-
  DERIVED: THE SHELF's CONTRACTS AT THIS DUMP, IN PLAIN WORDS (tools/lay-plain.mjs out of 'ZSg.lean', which tools/lay-shelf.mjs wrote): THE SAME DECLARATIONS UNDER THE SAME NAMES: 'import', 'namespace', 'open', 'def', 'theorem' AND NOTHING ELSE: no command of the shelf's: FOR A HAND-IN. Each laying: the table of numbers ('.._ren') and one theorem, a field a fact of the dump's own or the kernel's comparison; each contract: ONE APPLICATION.
-/
import Derived.Shelf.Strings.Prefix
import Derived.Ground.NamesProg
import Derived.Shelf.Strconv.Atoi
import Derived.Test.YthgjhfapnilfhaaDoorProg
namespace Go.Proofs
open Go.Shelf
def Tryd.lays99_ren : Go.Shelf.Ren := ⟨fun | 99 => 135 | 206 => 152 | n => n, fun | 9 => 9 | 4 => 4 | 3 => 3 | n => n, fun | n => n⟩
theorem Tryd.lays99 : Go.Proofs.Lays.n99 Tryd.prog Tryd.lays99_ren := {
  mixed := by kernel_rfl
  f99 := Tryd.func135.trans (congrArg some (by kernel_rfl))
  f206 := Tryd.func152.trans (congrArg some (by kernel_rfl))
  t3 := Tryd.underlying3
  a3 := Tryd.isAgg3
  z3 := Tryd.sizeOf3
  v3 := Tryd.zeroValue3
  t4 := Tryd.underlying4
  a4 := Tryd.isAgg4
  z4 := Tryd.sizeOf4
  v4 := Tryd.zeroValue4
  t9 := Tryd.underlying9
  a9 := Tryd.isAgg9
  z9 := Tryd.sizeOf9
  v9 := Tryd.zeroValue9 }
open Go.RowKit Go.Sort Go.Lib in
/-- strings.HasPrefix -/
theorem Tryd.strings_HasPrefix (s p : ByteArray) (w : World) :
    Calls Tryd.prog 135 #[.string s, .string p] w fun e w' => e = .returned (.bool (Lib.hasPrefix s.data.toList p.data.toList)) ∧ w' = w := Any.strings_HasPrefix Tryd.lays99 s p w
def Tryd.lays172_ren : Go.Shelf.Ren := ⟨fun | 172 => 138 | 244 => 153 | 245 => 154 | 247 => 162 | 279 => 163 | 280 => 164 | 281 => 165 | 282 => 166 | 287 => 168 | 316 => 169 | 171 => 58 | 205 => 170 | 321 => 172 | 322 => 173 | 243 => 103 | 246 => 134 | 283 => 148 | 284 => 149 | 285 => 150 | 286 => 151 | 129 => 132 | 317 => 158 | 318 => 159 | 319 => 160 | 320 => 161 | 337 => 74 | 338 => 88 | n => n, fun | 9 => 9 | 3 => 3 | 75 => 217 | 76 => 218 | 4 => 4 | 5 => 5 | 167 => 242 | 37 => 22 | 0 => 0 | 85 => 243 | 2 => 2 | 168 => 245 | 53 => 107 | 175 => 248 | 46 => 73 | 210 => 252 | 127 => 256 | 145 => 259 | 143 => 257 | 21 => 21 | 171 => 229 | 173 => 231 | 212 => 240 | 51 => 95 | 20 => 20 | 213 => 241 | 232 => 194 | 233 => 200 | 80 => 260 | n => n, fun | 15 => 3 | 16 => 4 | 17 => 2 | 18 => 0 | 19 => 1 | n => n⟩
theorem Tryd.lays172 : Go.Proofs.Lays.n172 Tryd.prog Tryd.lays172_ren := {
  mixed := by kernel_rfl
  f129 := Tryd.func132.trans (congrArg some (by kernel_rfl))
  f171 := Tryd.func58.trans (congrArg some (by kernel_rfl))
  f172 := Tryd.func138.trans (congrArg some (by kernel_rfl))
  f205 := Tryd.func170.trans (congrArg some (by kernel_rfl))
  f243 := Tryd.func103.trans (congrArg some (by kernel_rfl))
  f244 := Tryd.func153.trans (congrArg some (by kernel_rfl))
  f245 := Tryd.func154.trans (congrArg some (by kernel_rfl))
  f246 := Tryd.func134.trans (congrArg some (by kernel_rfl))
  f247 := Tryd.func162.trans (congrArg some (by kernel_rfl))
  f279 := Tryd.func163.trans (congrArg some (by kernel_rfl))
  f280 := Tryd.func164.trans (congrArg some (by kernel_rfl))
  f281 := Tryd.func165.trans (congrArg some (by kernel_rfl))
  f282 := Tryd.func166.trans (congrArg some (by kernel_rfl))
  f283 := Tryd.func148.trans (congrArg some (by kernel_rfl))
  f284 := Tryd.func149.trans (congrArg some (by kernel_rfl))
  f285 := Tryd.func150.trans (congrArg some (by kernel_rfl))
  f286 := Tryd.func151.trans (congrArg some (by kernel_rfl))
  f287 := Tryd.func168.trans (congrArg some (by kernel_rfl))
  f316 := Tryd.func169.trans (congrArg some (by kernel_rfl))
  f317 := Tryd.func158.trans (congrArg some (by kernel_rfl))
  f318 := Tryd.func159.trans (congrArg some (by kernel_rfl))
  f319 := Tryd.func160.trans (congrArg some (by kernel_rfl))
  f320 := Tryd.func161.trans (congrArg some (by kernel_rfl))
  f321 := Tryd.func172.trans (congrArg some (by kernel_rfl))
  f322 := Tryd.func173.trans (congrArg some (by kernel_rfl))
  f337 := Tryd.func74.trans (congrArg some (by kernel_rfl))
  f338 := Tryd.func88.trans (congrArg some (by kernel_rfl))
  t0 := Tryd.underlying0
  a0 := Tryd.isAgg0
  z0 := Tryd.sizeOf0
  v0 := Tryd.zeroValue0
  t2 := Tryd.underlying2
  a2 := Tryd.isAgg2
  z2 := Tryd.sizeOf2
  v2 := Tryd.zeroValue2
  t3 := Tryd.underlying3
  a3 := Tryd.isAgg3
  z3 := Tryd.sizeOf3
  v3 := Tryd.zeroValue3
  t4 := Tryd.underlying4
  a4 := Tryd.isAgg4
  z4 := Tryd.sizeOf4
  v4 := Tryd.zeroValue4
  t5 := Tryd.underlying5
  a5 := Tryd.isAgg5
  z5 := Tryd.sizeOf5
  v5 := Tryd.zeroValue5
  t9 := Tryd.underlying9
  a9 := Tryd.isAgg9
  z9 := Tryd.sizeOf9
  v9 := Tryd.zeroValue9
  t20 := Tryd.underlying20
  a20 := Tryd.isAgg20
  z20 := Tryd.sizeOf20
  v20 := Tryd.zeroValue20
  t21 := Tryd.underlying21
  a21 := Tryd.isAgg21
  z21 := Tryd.sizeOf21
  v21 := Tryd.zeroValue21
  t37 := Tryd.underlying22
  a37 := Tryd.isAgg22
  z37 := Tryd.sizeOf22
  v37 := Tryd.zeroValue22
  t46 := Tryd.underlying73
  a46 := Tryd.isAgg73
  z46 := Tryd.sizeOf73
  v46 := Tryd.zeroValue73
  t51 := Tryd.underlying95
  a51 := Tryd.isAgg95
  z51 := Tryd.sizeOf95
  v51 := Tryd.zeroValue95
  t53 := Tryd.underlying107
  a53 := Tryd.isAgg107
  z53 := Tryd.sizeOf107
  v53 := Tryd.zeroValue107
  t75 := Tryd.underlying217
  a75 := Tryd.isAgg217
  z75 := Tryd.sizeOf217
  v75 := Tryd.zeroValue217
  t76 := Tryd.underlying218
  a76 := Tryd.isAgg218
  z76 := Tryd.sizeOf218
  v76 := Tryd.zeroValue218
  t85 := Tryd.underlying243
  a85 := Tryd.isAgg243
  z85 := Tryd.sizeOf243
  v85 := Tryd.zeroValue243
  t127 := Tryd.underlying256
  a127 := Tryd.isAgg256
  z127 := Tryd.sizeOf256
  v127 := Tryd.zeroValue256
  t143 := Tryd.underlying257
  a143 := Tryd.isAgg257
  z143 := Tryd.sizeOf257
  v143 := Tryd.zeroValue257
  t145 := Tryd.underlying259
  a145 := Tryd.isAgg259
  z145 := Tryd.sizeOf259
  v145 := Tryd.zeroValue259
  t167 := Tryd.underlying242
  a167 := Tryd.isAgg242
  z167 := Tryd.sizeOf242
  v167 := Tryd.zeroValue242
  t168 := Tryd.underlying245
  a168 := Tryd.isAgg245
  z168 := Tryd.sizeOf245
  v168 := Tryd.zeroValue245
  t171 := Tryd.underlying229
  a171 := Tryd.isAgg229
  z171 := Tryd.sizeOf229
  v171 := Tryd.zeroValue229
  t173 := Tryd.underlying231
  a173 := Tryd.isAgg231
  z173 := Tryd.sizeOf231
  v173 := Tryd.zeroValue231
  t175 := Tryd.underlying248
  a175 := Tryd.isAgg248
  z175 := Tryd.sizeOf248
  v175 := Tryd.zeroValue248
  t210 := Tryd.underlying252
  a210 := Tryd.isAgg252
  z210 := Tryd.sizeOf252
  v210 := Tryd.zeroValue252
  t212 := Tryd.underlying240
  a212 := Tryd.isAgg240
  z212 := Tryd.sizeOf240
  v212 := Tryd.zeroValue240
  t213 := Tryd.underlying241
  a213 := Tryd.isAgg241
  z213 := Tryd.sizeOf241
  t232 := Tryd.underlying194
  a232 := Tryd.isAgg194
  z232 := Tryd.sizeOf194
  v232 := Tryd.zeroValue194
  t233 := Tryd.underlying200
  a233 := Tryd.isAgg200
  z233 := Tryd.sizeOf200
  v233 := Tryd.zeroValue200
  g15 := by kernel_rfl
  g16 := by kernel_rfl
  g17 := by kernel_rfl
  g18 := by kernel_rfl
  g19 := by kernel_rfl }
open Go.RowKit Go.Sort Go.Lib in
/-- strconv.Atoi -/
theorem Tryd.strconv_Atoi (s : ByteArray) (n : Int) (hl : s.size ≤ 18) (h : Lib.atoi s.data.toList = some n) (w : World) :
    Calls Tryd.prog 138 #[.string s] w fun e w' => e = .returned (.tuple #[.int .i64 n, .nilIface]) ∧ ∃ t, w' = Lib.bytesWorld w (Tryd.lays172_ren.t 5) t := Any.strconv_Atoi Tryd.lays172 s n hl h w
end Go.Proofs
