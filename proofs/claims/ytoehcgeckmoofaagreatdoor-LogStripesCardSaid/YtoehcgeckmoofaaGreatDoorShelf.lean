/-
  DERIVED: THE SHELF's CONTRACTS AT THIS DUMP, IN PLAIN WORDS (tools/lay-plain.mjs out of 'TryzShelf.lean', which tools/lay-shelf.mjs wrote): THE SAME DECLARATIONS UNDER THE SAME NAMES: 'import', 'namespace', 'open', 'def', 'theorem' AND NOTHING ELSE: no command of the shelf's: FOR A HAND-IN. Each laying: the table of numbers ('.._ren') and one theorem, a field a fact of the dump's own or the kernel's comparison; each contract: ONE APPLICATION.
-/
import Derived.Shelf.SlGeneric
import Derived.Shelf.SortM.Plain
import Derived.Ground.SlgmProg
import Derived.Shelf.Strings.Builder1
import Derived.Shelf.Strings.Builder2
import Derived.Shelf.Strings.OnBuilder
import Derived.Shelf.Strings.Trim
import Derived.Shelf.Small.Utf8
import Derived.Shelf.Small.Bits
import Derived.Shelf.Small.Strs
import Derived.Shelf.Small.Wraps
import Derived.Shelf.Strconv.Atoi
import Derived.Shelf.Strconv.Itoa0
import Derived.Shelf.Strconv.Itoa1
import Derived.Shelf.LaysM
import Derived.Shelf.Strconv.Itoa2
import Derived.Shelf.Strconv.Itoa3
import Derived.Shelf.Strconv.AtoiErrFast
import Derived.Shelf.Strconv.ParseIntEmpty
import Derived.Shelf.Strconv.AtoiFail
import Derived.Shelf.Strconv.Lower
import Derived.Shelf.Strconv.ParseUint10
import Derived.Shelf.Strconv.ParseUint10Empty
import Derived.Shelf.Strconv.ParseUint10Any
import Derived.Shelf.LaysC
import Derived.Shelf.Strconv.ParseInt10
import Derived.Shelf.Strconv.AtoiLong
import Derived.Shelf.Strconv.AtoiInnerAll
import Derived.Shelf.Strings.Search1
import Derived.Shelf.Strings.Search2
import Derived.Shelf.Strings.Search3
import Derived.Shelf.Strings.Cut
import Derived.Shelf.Strings.Count
import Derived.Shelf.Strings.Shaped
import Derived.Shelf.GgClosure.StringsIndexFunc
import Derived.Shelf.GgClosure.StringsTrimFunc
import Derived.Shelf.Strings.Prefix
import Derived.Shelf.Strings.Split
import Derived.Shelf.Strings.SplitShaped
import Derived.Shelf.Strings.Runes
import Derived.Shelf.Strings.AsciiSet
import Derived.Shelf.Unicode.DecodeSlow
import Derived.Shelf.Unicode.DecodeAny
import Derived.Shelf.Unicode.DecodeLast
import Derived.Shelf.Strings.FuncGrows
import Derived.Shelf.Slices.In.SortNone
import Derived.Test.YtoehcgeckmoofaaGreatDoorProg
namespace Go.Proofs
open Go.Shelf
def Tryz.lays156_ren : Go.Shelf.Ren := ⟨fun | 156 => 94 | 165 => 122 | 166 => 123 | 169 => 124 | 240 => 156 | 241 => 157 | 276 => 186 | 277 => 187 | n => n, fun | 31 => 77 | 9 => 9 | 3 => 3 | 4 => 4 | 0 => 0 | 20 => 20 | 72 => 191 | 76 => 194 | 70 => 189 | 37 => 22 | 75 => 193 | 127 => 224 | 164 => 243 | 5 => 5 | 80 => 196 | n => n, fun | n => n⟩
theorem Tryz.lays156 : Go.Proofs.Lays.n156 Tryz.prog Tryz.lays156_ren := {
  mixed := by kernel_rfl
  f156 := Tryz.func94.trans (congrArg some (by kernel_rfl))
  f165 := Tryz.func122.trans (congrArg some (by kernel_rfl))
  f166 := Tryz.func123.trans (congrArg some (by kernel_rfl))
  f169 := Tryz.func124.trans (congrArg some (by kernel_rfl))
  f240 := Tryz.func156.trans (congrArg some (by kernel_rfl))
  f241 := Tryz.func157.trans (congrArg some (by kernel_rfl))
  f276 := Tryz.func186.trans (congrArg some (by kernel_rfl))
  f277 := Tryz.func187.trans (congrArg some (by kernel_rfl))
  t0 := Tryz.underlying0
  a0 := Tryz.isAgg0
  z0 := Tryz.sizeOf0
  v0 := Tryz.zeroValue0
  t3 := Tryz.underlying3
  a3 := Tryz.isAgg3
  z3 := Tryz.sizeOf3
  v3 := Tryz.zeroValue3
  t4 := Tryz.underlying4
  a4 := Tryz.isAgg4
  z4 := Tryz.sizeOf4
  v4 := Tryz.zeroValue4
  t9 := Tryz.underlying9
  a9 := Tryz.isAgg9
  z9 := Tryz.sizeOf9
  v9 := Tryz.zeroValue9
  t20 := Tryz.underlying20
  a20 := Tryz.isAgg20
  z20 := Tryz.sizeOf20
  v20 := Tryz.zeroValue20
  t31 := Tryz.underlying77
  a31 := Tryz.isAgg77
  z31 := Tryz.sizeOf77
  v31 := Tryz.zeroValue77
  t37 := Tryz.underlying22
  a37 := Tryz.isAgg22
  z37 := Tryz.sizeOf22
  v37 := Tryz.zeroValue22
  t70 := Tryz.underlying189
  a70 := Tryz.isAgg189
  z70 := Tryz.sizeOf189
  v70 := Tryz.zeroValue189
  t72 := Tryz.underlying191
  a72 := Tryz.isAgg191
  z72 := Tryz.sizeOf191
  v72 := Tryz.zeroValue191
  t75 := Tryz.underlying193
  a75 := Tryz.isAgg193
  z75 := Tryz.sizeOf193
  v75 := Tryz.zeroValue193
  t76 := Tryz.underlying194
  a76 := Tryz.isAgg194
  z76 := Tryz.sizeOf194
  v76 := Tryz.zeroValue194
  t127 := Tryz.underlying224
  a127 := Tryz.isAgg224
  z127 := Tryz.sizeOf224
  v127 := Tryz.zeroValue224
  t164 := Tryz.underlying243
  a164 := Tryz.isAgg243
  z164 := Tryz.sizeOf243
  v164 := Tryz.zeroValue243 }
theorem Tryz.Builder_Extra_156 : Builder.Extra Tryz.prog Tryz.lays156_ren := {
  sizeBuilder := by kernel_rfl
  liesBuilder := by kernel_rfl
  t5 := Tryz.underlying5
  a5 := Tryz.isAgg5
  z5 := Tryz.sizeOf5
  v5 := Tryz.zeroValue5
  infoByte := by kernel_rfl
  cellsByte := by kernel_rfl
  sizeByte := by kernel_rfl
  neB5 := by decide }
open Go.RowKit in
theorem Tryz.strings_Join_none (a : Option Addr) (c : Nat) (sep : ByteArray) (w : World) :
    Calls Tryz.prog 94 #[.slice a 0 c, .string sep] w fun e w' => e = .returned (.string ⟨#[]⟩) ∧ w' = w := Any.strings_Join_none Tryz.lays156 Tryz.Builder_Extra_156 a c sep w
open Go.RowKit in
theorem Tryz.strings_Join (bk o c : Nat) (xs : List ByteArray) (sep : ByteArray) (w : World) (hcells : ∀ (j : Nat) x, xs[j]? = some x → w.cell? ⟨bk, o + j, none⟩ = some (.string x)) (hbk : bk < w.heap.size) (hN : xs.length ≤ 140737488355328) (hcap : xs.length ≤ c) (hlen : (Lib.join (xs.map (·.data.toList)) sep.data.toList).length ≤ 140737488355328) :
    Calls Tryz.prog 94 #[.slice (some ⟨bk, o, none⟩) xs.length c, .string sep] w fun e w' => e = .returned (.string ⟨(Lib.join (xs.map (·.data.toList)) sep.data.toList).toArray⟩) ∧ Below w.heap.size w w' := Any.strings_Join Tryz.lays156 Tryz.Builder_Extra_156 bk o c xs sep w hcells hbk hN hcap hlen
def Tryz.lays160_ren : Go.Shelf.Ren := ⟨fun | 160 => 130 | 232 => 160 | 231 => 159 | 227 => 161 | 234 => 163 | 233 => 162 | 236 => 165 | 235 => 164 | 228 => 190 | 271 => 192 | 151 => 191 | 197 => 189 | 120 => 215 | 152 => 214 | 260 => 213 | 137 => 231 | 119 => 232 | 224 => 179 | 225 => 178 | 217 => 177 | 266 => 209 | n => n, fun | 9 => 9 | 4 => 4 | 3 => 3 | 5 => 5 | 117 => 229 | 116 => 228 | 0 => 0 | 124 => 232 | 21 => 21 | 105 => 246 | 46 => 68 | 119 => 280 | 139 => 283 | 138 => 282 | n => n, fun | 3 => 6 | 4 => 7 | n => n⟩
theorem Tryz.lays160 : Go.Proofs.Lays.n160 Tryz.prog Tryz.lays160_ren := {
  mixed := by kernel_rfl
  f119 := Tryz.func232.trans (congrArg some (by kernel_rfl))
  f120 := Tryz.func215.trans (congrArg some (by kernel_rfl))
  f137 := Tryz.func231.trans (congrArg some (by kernel_rfl))
  f151 := Tryz.func191.trans (congrArg some (by kernel_rfl))
  f152 := Tryz.func214.trans (congrArg some (by kernel_rfl))
  f160 := Tryz.func130.trans (congrArg some (by kernel_rfl))
  f197 := Tryz.func189.trans (congrArg some (by kernel_rfl))
  f217 := Tryz.func177.trans (congrArg some (by kernel_rfl))
  f224 := Tryz.func179.trans (congrArg some (by kernel_rfl))
  f225 := Tryz.func178.trans (congrArg some (by kernel_rfl))
  f227 := Tryz.func161.trans (congrArg some (by kernel_rfl))
  f228 := Tryz.func190.trans (congrArg some (by kernel_rfl))
  f231 := Tryz.func159.trans (congrArg some (by kernel_rfl))
  f232 := Tryz.func160.trans (congrArg some (by kernel_rfl))
  f233 := Tryz.func162.trans (congrArg some (by kernel_rfl))
  f234 := Tryz.func163.trans (congrArg some (by kernel_rfl))
  f235 := Tryz.func164.trans (congrArg some (by kernel_rfl))
  f236 := Tryz.func165.trans (congrArg some (by kernel_rfl))
  f260 := Tryz.func213.trans (congrArg some (by kernel_rfl))
  f266 := Tryz.func209.trans (congrArg some (by kernel_rfl))
  f271 := Tryz.func192.trans (congrArg some (by kernel_rfl))
  t0 := Tryz.underlying0
  a0 := Tryz.isAgg0
  z0 := Tryz.sizeOf0
  v0 := Tryz.zeroValue0
  t3 := Tryz.underlying3
  a3 := Tryz.isAgg3
  z3 := Tryz.sizeOf3
  v3 := Tryz.zeroValue3
  t4 := Tryz.underlying4
  a4 := Tryz.isAgg4
  z4 := Tryz.sizeOf4
  v4 := Tryz.zeroValue4
  t5 := Tryz.underlying5
  a5 := Tryz.isAgg5
  z5 := Tryz.sizeOf5
  v5 := Tryz.zeroValue5
  t9 := Tryz.underlying9
  a9 := Tryz.isAgg9
  z9 := Tryz.sizeOf9
  v9 := Tryz.zeroValue9
  t21 := Tryz.underlying21
  a21 := Tryz.isAgg21
  z21 := Tryz.sizeOf21
  v21 := Tryz.zeroValue21
  t46 := Tryz.underlying68
  a46 := Tryz.isAgg68
  z46 := Tryz.sizeOf68
  v46 := Tryz.zeroValue68
  t105 := Tryz.underlying246
  a105 := Tryz.isAgg246
  z105 := Tryz.sizeOf246
  v105 := Tryz.zeroValue246
  t116 := Tryz.underlying228
  a116 := Tryz.isAgg228
  z116 := Tryz.sizeOf228
  t117 := Tryz.underlying229
  a117 := Tryz.isAgg229
  z117 := Tryz.sizeOf229
  v117 := Tryz.zeroValue229
  t119 := Tryz.underlying280
  a119 := Tryz.isAgg280
  z119 := Tryz.sizeOf280
  t124 := Tryz.underlying232
  a124 := Tryz.isAgg232
  z124 := Tryz.sizeOf232
  v124 := Tryz.zeroValue232
  t138 := Tryz.underlying282
  a138 := Tryz.isAgg282
  z138 := Tryz.sizeOf282
  v138 := Tryz.zeroValue282
  t139 := Tryz.underlying283
  a139 := Tryz.isAgg283
  z139 := Tryz.sizeOf283
  v139 := Tryz.zeroValue283
  g3 := by kernel_rfl
  g4 := by kernel_rfl }
def Tryz.lays103_ren : Go.Shelf.Ren := ⟨fun | 103 => 132 | 210 => 168 | 206 => 198 | n => n, fun | 9 => 9 | 4 => 4 | 24 => 204 | 3 => 3 | n => n, fun | n => n⟩
theorem Tryz.lays103 : Go.Proofs.Lays.n103 Tryz.prog Tryz.lays103_ren := {
  mixed := by kernel_rfl
  f103 := Tryz.func132.trans (congrArg some (by kernel_rfl))
  f206 := Tryz.func198.trans (congrArg some (by kernel_rfl))
  f210 := Tryz.func168.trans (congrArg some (by kernel_rfl))
  t3 := Tryz.underlying3
  a3 := Tryz.isAgg3
  z3 := Tryz.sizeOf3
  v3 := Tryz.zeroValue3
  t4 := Tryz.underlying4
  a4 := Tryz.isAgg4
  z4 := Tryz.sizeOf4
  v4 := Tryz.zeroValue4
  t9 := Tryz.underlying9
  a9 := Tryz.isAgg9
  z9 := Tryz.sizeOf9
  v9 := Tryz.zeroValue9
  t24 := Tryz.underlying204
  a24 := Tryz.isAgg204
  z24 := Tryz.sizeOf204
  v24 := Tryz.zeroValue204 }
open Go.RowKit in
theorem Tryz.strings_CutPrefix (s p : ByteArray) (w : World) :
    Calls Tryz.prog 132 #[.string s, .string p] w fun e w' => e = .returned (.tuple #[.string ⟨(Lib.trimPrefix s.data.toList p.data.toList).toArray⟩, .bool (Lib.hasPrefix s.data.toList p.data.toList)]) ∧ w' = w := Any.strings_CutPrefix Tryz.lays103 s p w
def Tryz.lays104_ren : Go.Shelf.Ren := ⟨fun | 104 => 133 | 211 => 169 | 207 => 199 | n => n, fun | 9 => 9 | 4 => 4 | 24 => 204 | 3 => 3 | n => n, fun | n => n⟩
theorem Tryz.lays104 : Go.Proofs.Lays.n104 Tryz.prog Tryz.lays104_ren := {
  mixed := by kernel_rfl
  f104 := Tryz.func133.trans (congrArg some (by kernel_rfl))
  f207 := Tryz.func199.trans (congrArg some (by kernel_rfl))
  f211 := Tryz.func169.trans (congrArg some (by kernel_rfl))
  t3 := Tryz.underlying3
  a3 := Tryz.isAgg3
  z3 := Tryz.sizeOf3
  v3 := Tryz.zeroValue3
  t4 := Tryz.underlying4
  a4 := Tryz.isAgg4
  z4 := Tryz.sizeOf4
  v4 := Tryz.zeroValue4
  t9 := Tryz.underlying9
  a9 := Tryz.isAgg9
  z9 := Tryz.sizeOf9
  v9 := Tryz.zeroValue9
  t24 := Tryz.underlying204
  a24 := Tryz.isAgg204
  z24 := Tryz.sizeOf204
  v24 := Tryz.zeroValue204 }
open Go.RowKit in
theorem Tryz.strings_CutSuffix (s p : ByteArray) (w : World) (hs : s.size ≤ 9223372036854775807) :
    Calls Tryz.prog 133 #[.string s, .string p] w fun e w' => e = .returned (.tuple #[.string ⟨(Lib.trimSuffix s.data.toList p.data.toList).toArray⟩, .bool (Lib.hasSuffix s.data.toList p.data.toList)]) ∧ w' = w := Any.strings_CutSuffix Tryz.lays104 s p w hs
def Tryz.lays172_ren : Go.Shelf.Ren := ⟨fun | 172 => 131 | 244 => 166 | 245 => 167 | 247 => 193 | 279 => 194 | 280 => 195 | 281 => 196 | 282 => 197 | 287 => 216 | 316 => 217 | 171 => 51 | 205 => 218 | 321 => 233 | 322 => 234 | 243 => 92 | 246 => 120 | 283 => 152 | 284 => 153 | 285 => 154 | 286 => 155 | 129 => 182 | 317 => 181 | 318 => 183 | 319 => 184 | 320 => 185 | 337 => 211 | 338 => 212 | n => n, fun | 9 => 9 | 3 => 3 | 75 => 193 | 76 => 194 | 4 => 4 | 5 => 5 | 167 => 250 | 37 => 22 | 0 => 0 | 85 => 251 | 2 => 2 | 168 => 253 | 53 => 219 | 175 => 265 | 46 => 68 | 210 => 269 | 127 => 224 | 145 => 287 | 143 => 285 | 21 => 21 | 171 => 218 | 173 => 222 | 212 => 239 | 51 => 240 | 20 => 20 | 213 => 241 | 232 => 278 | 233 => 279 | 80 => 196 | n => n, fun | 15 => 2 | 16 => 3 | 17 => 1 | 18 => 4 | 19 => 5 | n => n⟩
theorem Tryz.lays172 : Go.Proofs.Lays.n172 Tryz.prog Tryz.lays172_ren := {
  mixed := by kernel_rfl
  f129 := Tryz.func182.trans (congrArg some (by kernel_rfl))
  f171 := Tryz.func51.trans (congrArg some (by kernel_rfl))
  f172 := Tryz.func131.trans (congrArg some (by kernel_rfl))
  f205 := Tryz.func218.trans (congrArg some (by kernel_rfl))
  f243 := Tryz.func92.trans (congrArg some (by kernel_rfl))
  f244 := Tryz.func166.trans (congrArg some (by kernel_rfl))
  f245 := Tryz.func167.trans (congrArg some (by kernel_rfl))
  f246 := Tryz.func120.trans (congrArg some (by kernel_rfl))
  f247 := Tryz.func193.trans (congrArg some (by kernel_rfl))
  f279 := Tryz.func194.trans (congrArg some (by kernel_rfl))
  f280 := Tryz.func195.trans (congrArg some (by kernel_rfl))
  f281 := Tryz.func196.trans (congrArg some (by kernel_rfl))
  f282 := Tryz.func197.trans (congrArg some (by kernel_rfl))
  f283 := Tryz.func152.trans (congrArg some (by kernel_rfl))
  f284 := Tryz.func153.trans (congrArg some (by kernel_rfl))
  f285 := Tryz.func154.trans (congrArg some (by kernel_rfl))
  f286 := Tryz.func155.trans (congrArg some (by kernel_rfl))
  f287 := Tryz.func216.trans (congrArg some (by kernel_rfl))
  f316 := Tryz.func217.trans (congrArg some (by kernel_rfl))
  f317 := Tryz.func181.trans (congrArg some (by kernel_rfl))
  f318 := Tryz.func183.trans (congrArg some (by kernel_rfl))
  f319 := Tryz.func184.trans (congrArg some (by kernel_rfl))
  f320 := Tryz.func185.trans (congrArg some (by kernel_rfl))
  f321 := Tryz.func233.trans (congrArg some (by kernel_rfl))
  f322 := Tryz.func234.trans (congrArg some (by kernel_rfl))
  f337 := Tryz.func211.trans (congrArg some (by kernel_rfl))
  f338 := Tryz.func212.trans (congrArg some (by kernel_rfl))
  t0 := Tryz.underlying0
  a0 := Tryz.isAgg0
  z0 := Tryz.sizeOf0
  v0 := Tryz.zeroValue0
  t2 := Tryz.underlying2
  a2 := Tryz.isAgg2
  z2 := Tryz.sizeOf2
  v2 := Tryz.zeroValue2
  t3 := Tryz.underlying3
  a3 := Tryz.isAgg3
  z3 := Tryz.sizeOf3
  v3 := Tryz.zeroValue3
  t4 := Tryz.underlying4
  a4 := Tryz.isAgg4
  z4 := Tryz.sizeOf4
  v4 := Tryz.zeroValue4
  t5 := Tryz.underlying5
  a5 := Tryz.isAgg5
  z5 := Tryz.sizeOf5
  v5 := Tryz.zeroValue5
  t9 := Tryz.underlying9
  a9 := Tryz.isAgg9
  z9 := Tryz.sizeOf9
  v9 := Tryz.zeroValue9
  t20 := Tryz.underlying20
  a20 := Tryz.isAgg20
  z20 := Tryz.sizeOf20
  v20 := Tryz.zeroValue20
  t21 := Tryz.underlying21
  a21 := Tryz.isAgg21
  z21 := Tryz.sizeOf21
  v21 := Tryz.zeroValue21
  t37 := Tryz.underlying22
  a37 := Tryz.isAgg22
  z37 := Tryz.sizeOf22
  v37 := Tryz.zeroValue22
  t46 := Tryz.underlying68
  a46 := Tryz.isAgg68
  z46 := Tryz.sizeOf68
  v46 := Tryz.zeroValue68
  t51 := Tryz.underlying240
  a51 := Tryz.isAgg240
  z51 := Tryz.sizeOf240
  v51 := Tryz.zeroValue240
  t53 := Tryz.underlying219
  a53 := Tryz.isAgg219
  z53 := Tryz.sizeOf219
  v53 := Tryz.zeroValue219
  t75 := Tryz.underlying193
  a75 := Tryz.isAgg193
  z75 := Tryz.sizeOf193
  v75 := Tryz.zeroValue193
  t76 := Tryz.underlying194
  a76 := Tryz.isAgg194
  z76 := Tryz.sizeOf194
  v76 := Tryz.zeroValue194
  t85 := Tryz.underlying251
  a85 := Tryz.isAgg251
  z85 := Tryz.sizeOf251
  v85 := Tryz.zeroValue251
  t127 := Tryz.underlying224
  a127 := Tryz.isAgg224
  z127 := Tryz.sizeOf224
  v127 := Tryz.zeroValue224
  t143 := Tryz.underlying285
  a143 := Tryz.isAgg285
  z143 := Tryz.sizeOf285
  v143 := Tryz.zeroValue285
  t145 := Tryz.underlying287
  a145 := Tryz.isAgg287
  z145 := Tryz.sizeOf287
  v145 := Tryz.zeroValue287
  t167 := Tryz.underlying250
  a167 := Tryz.isAgg250
  z167 := Tryz.sizeOf250
  v167 := Tryz.zeroValue250
  t168 := Tryz.underlying253
  a168 := Tryz.isAgg253
  z168 := Tryz.sizeOf253
  v168 := Tryz.zeroValue253
  t171 := Tryz.underlying218
  a171 := Tryz.isAgg218
  z171 := Tryz.sizeOf218
  v171 := Tryz.zeroValue218
  t173 := Tryz.underlying222
  a173 := Tryz.isAgg222
  z173 := Tryz.sizeOf222
  v173 := Tryz.zeroValue222
  t175 := Tryz.underlying265
  a175 := Tryz.isAgg265
  z175 := Tryz.sizeOf265
  v175 := Tryz.zeroValue265
  t210 := Tryz.underlying269
  a210 := Tryz.isAgg269
  z210 := Tryz.sizeOf269
  v210 := Tryz.zeroValue269
  t212 := Tryz.underlying239
  a212 := Tryz.isAgg239
  z212 := Tryz.sizeOf239
  v212 := Tryz.zeroValue239
  t213 := Tryz.underlying241
  a213 := Tryz.isAgg241
  z213 := Tryz.sizeOf241
  t232 := Tryz.underlying278
  a232 := Tryz.isAgg278
  z232 := Tryz.sizeOf278
  v232 := Tryz.zeroValue278
  t233 := Tryz.underlying279
  a233 := Tryz.isAgg279
  z233 := Tryz.sizeOf279
  v233 := Tryz.zeroValue279
  g15 := by kernel_rfl
  g16 := by kernel_rfl
  g17 := by kernel_rfl
  g18 := by kernel_rfl
  g19 := by kernel_rfl }
open Go.RowKit in
theorem Tryz.strconv_Atoi (s : ByteArray) (n : Int) (hl : s.size ≤ 18) (h : Lib.atoi s.data.toList = some n) (w : World) :
    Calls Tryz.prog 131 #[.string s] w fun e w' => e = .returned (.tuple #[.int .i64 n, .nilIface]) ∧ ∃ t, w' = Lib.bytesWorld w 5 t := Any.strconv_Atoi Tryz.lays172 s n hl h w
def Tryz.laysM171_ren : Go.Shelf.Ren := ⟨fun | 171 => 51 | 243 => 92 | 246 => 120 | 283 => 152 | 284 => 153 | 285 => 154 | 286 => 155 | 129 => 182 | 317 => 181 | 318 => 183 | 319 => 184 | 320 => 185 | 337 => 211 | 338 => 212 | n => n, fun | 3 => 3 | 9 => 9 | 2 => 2 | 4 => 4 | 171 => 218 | 0 => 0 | 53 => 219 | 37 => 22 | 5 => 5 | 173 => 222 | 212 => 239 | 51 => 240 | 20 => 20 | 213 => 241 | 46 => 68 | 232 => 278 | 233 => 279 | n => n, fun | 17 => 1 | 18 => 4 | 19 => 5 | n => n⟩
theorem Tryz.laysM171 : Go.Proofs.LaysM.n171 Tryz.prog Tryz.laysM171_ren := {
  mixed := by kernel_rfl
  f129 := Tryz.func182.trans (congrArg some (by kernel_rfl))
  f171 := Tryz.func51.trans (congrArg some (by kernel_rfl))
  f243 := Tryz.func92.trans (congrArg some (by kernel_rfl))
  f246 := Tryz.func120.trans (congrArg some (by kernel_rfl))
  f283 := Tryz.func152.trans (congrArg some (by kernel_rfl))
  f284 := Tryz.func153.trans (congrArg some (by kernel_rfl))
  f285 := Tryz.func154.trans (congrArg some (by kernel_rfl))
  f286 := Tryz.func155.trans (congrArg some (by kernel_rfl))
  f317 := Tryz.func181.trans (congrArg some (by kernel_rfl))
  f318 := Tryz.func183.trans (congrArg some (by kernel_rfl))
  f319 := Tryz.func184.trans (congrArg some (by kernel_rfl))
  f320 := Tryz.func185.trans (congrArg some (by kernel_rfl))
  f337 := Tryz.func211.trans (congrArg some (by kernel_rfl))
  f338 := Tryz.func212.trans (congrArg some (by kernel_rfl))
  t0 := Tryz.underlying0
  a0 := Tryz.isAgg0
  z0 := Tryz.sizeOf0
  v0 := Tryz.zeroValue0
  t2 := Tryz.underlying2
  a2 := Tryz.isAgg2
  z2 := Tryz.sizeOf2
  v2 := Tryz.zeroValue2
  t3 := Tryz.underlying3
  a3 := Tryz.isAgg3
  z3 := Tryz.sizeOf3
  v3 := Tryz.zeroValue3
  t4 := Tryz.underlying4
  a4 := Tryz.isAgg4
  z4 := Tryz.sizeOf4
  v4 := Tryz.zeroValue4
  t5 := Tryz.underlying5
  a5 := Tryz.isAgg5
  z5 := Tryz.sizeOf5
  v5 := Tryz.zeroValue5
  t9 := Tryz.underlying9
  a9 := Tryz.isAgg9
  z9 := Tryz.sizeOf9
  v9 := Tryz.zeroValue9
  t20 := Tryz.underlying20
  a20 := Tryz.isAgg20
  z20 := Tryz.sizeOf20
  v20 := Tryz.zeroValue20
  t37 := Tryz.underlying22
  a37 := Tryz.isAgg22
  z37 := Tryz.sizeOf22
  v37 := Tryz.zeroValue22
  t46 := Tryz.underlying68
  a46 := Tryz.isAgg68
  z46 := Tryz.sizeOf68
  v46 := Tryz.zeroValue68
  t51 := Tryz.underlying240
  a51 := Tryz.isAgg240
  z51 := Tryz.sizeOf240
  v51 := Tryz.zeroValue240
  t53 := Tryz.underlying219
  a53 := Tryz.isAgg219
  z53 := Tryz.sizeOf219
  v53 := Tryz.zeroValue219
  t171 := Tryz.underlying218
  a171 := Tryz.isAgg218
  z171 := Tryz.sizeOf218
  v171 := Tryz.zeroValue218
  t173 := Tryz.underlying222
  a173 := Tryz.isAgg222
  z173 := Tryz.sizeOf222
  v173 := Tryz.zeroValue222
  t212 := Tryz.underlying239
  a212 := Tryz.isAgg239
  z212 := Tryz.sizeOf239
  v212 := Tryz.zeroValue239
  t213 := Tryz.underlying241
  a213 := Tryz.isAgg241
  z213 := Tryz.sizeOf241
  t232 := Tryz.underlying278
  a232 := Tryz.isAgg278
  z232 := Tryz.sizeOf278
  v232 := Tryz.zeroValue278
  t233 := Tryz.underlying279
  a233 := Tryz.isAgg279
  z233 := Tryz.sizeOf279
  v233 := Tryz.zeroValue279
  g17 := by kernel_rfl
  g18 := by kernel_rfl
  g19 := by kernel_rfl
  i0 := by kernel_rfl
  i2 := by kernel_rfl
  i3 := by kernel_rfl
  i4 := by kernel_rfl
  i5 := by kernel_rfl
  i9 := by kernel_rfl
  i20 := by kernel_rfl
  i37 := by kernel_rfl
  i46 := by kernel_rfl
  i51 := by kernel_rfl
  i53 := by kernel_rfl
  i171 := by kernel_rfl
  i173 := by kernel_rfl
  i212 := by kernel_rfl
  i232 := by kernel_rfl
  i233 := by kernel_rfl
  m17 := by kernel_rfl
  m18 := by kernel_rfl
  m19 := by kernel_rfl }
open Go.RowKit Go.Sort Go.Lib in
theorem Tryz.strconv_Itoa (n : Int) (h0 : -9223372036854775808 ≤ n) (h1 : n ≤ 9223372036854775807) (w : World) (htab : Lib.TabIs Tryz.prog w "internal/strconv.uint64pow10" .u64 Lib.pow10Tab) :
    Calls Tryz.prog 51 #[.int .i64 n] w fun e w' => e = .returned (.string ⟨(Lib.itoa n).toArray⟩) ∧ ∃ k os, w' = grow (w.drewN k) os := Any.strconv_Itoa Tryz.laysM171 n h0 h1 w htab
def Tryz.lays143_ren : Go.Shelf.Ren := ⟨fun | 143 => 119 | 219 => 151 | 217 => 177 | 225 => 178 | 224 => 179 | 267 => 180 | 266 => 209 | 314 => 210 | n => n, fun | 9 => 9 | 3 => 3 | 4 => 4 | 5 => 5 | 46 => 68 | 146 => 261 | 51 => 240 | n => n, fun | 1 => 0 | n => n⟩
theorem Tryz.lays143 : Go.Proofs.Lays.n143 Tryz.prog Tryz.lays143_ren := {
  mixed := by kernel_rfl
  f143 := Tryz.func119.trans (congrArg some (by kernel_rfl))
  f217 := Tryz.func177.trans (congrArg some (by kernel_rfl))
  f219 := Tryz.func151.trans (congrArg some (by kernel_rfl))
  f224 := Tryz.func179.trans (congrArg some (by kernel_rfl))
  f225 := Tryz.func178.trans (congrArg some (by kernel_rfl))
  f266 := Tryz.func209.trans (congrArg some (by kernel_rfl))
  f267 := Tryz.func180.trans (congrArg some (by kernel_rfl))
  f314 := Tryz.func210.trans (congrArg some (by kernel_rfl))
  t3 := Tryz.underlying3
  a3 := Tryz.isAgg3
  z3 := Tryz.sizeOf3
  v3 := Tryz.zeroValue3
  t4 := Tryz.underlying4
  a4 := Tryz.isAgg4
  z4 := Tryz.sizeOf4
  v4 := Tryz.zeroValue4
  t5 := Tryz.underlying5
  a5 := Tryz.isAgg5
  z5 := Tryz.sizeOf5
  v5 := Tryz.zeroValue5
  t9 := Tryz.underlying9
  a9 := Tryz.isAgg9
  z9 := Tryz.sizeOf9
  v9 := Tryz.zeroValue9
  t46 := Tryz.underlying68
  a46 := Tryz.isAgg68
  z46 := Tryz.sizeOf68
  v46 := Tryz.zeroValue68
  t51 := Tryz.underlying240
  a51 := Tryz.isAgg240
  z51 := Tryz.sizeOf240
  v51 := Tryz.zeroValue240
  t146 := Tryz.underlying261
  a146 := Tryz.isAgg261
  z146 := Tryz.sizeOf261
  v146 := Tryz.zeroValue261
  g1 := by kernel_rfl }
open Go.RowKit Go.Lib in
theorem Tryz.strings_Index (s sub : ByteArray) (m : Int) (w : World) (hs : s.size < 4294967281) (hm : w.cell? ⟨0, 0, none⟩ = some (.int .i64 m)) :
    Calls Tryz.prog 119 #[.string s, .string sub] w fun e w' => e = .returned (.int .i64 (Lib.index s.data.toList sub.data.toList)) ∧ w' = w := Any.strings_Index Tryz.lays143 s sub m w hs hm
def Tryz.lays144_ren : Go.Shelf.Ren := ⟨fun | 144 => 90 | 143 => 119 | 219 => 151 | 217 => 177 | 225 => 178 | 224 => 179 | 267 => 180 | 266 => 209 | 314 => 210 | n => n, fun | 9 => 9 | 4 => 4 | 3 => 3 | 5 => 5 | 46 => 68 | 146 => 261 | 51 => 240 | n => n, fun | 1 => 0 | n => n⟩
theorem Tryz.lays144 : Go.Proofs.Lays.n144 Tryz.prog Tryz.lays144_ren := {
  mixed := by kernel_rfl
  f143 := Tryz.func119.trans (congrArg some (by kernel_rfl))
  f144 := Tryz.func90.trans (congrArg some (by kernel_rfl))
  f217 := Tryz.func177.trans (congrArg some (by kernel_rfl))
  f219 := Tryz.func151.trans (congrArg some (by kernel_rfl))
  f224 := Tryz.func179.trans (congrArg some (by kernel_rfl))
  f225 := Tryz.func178.trans (congrArg some (by kernel_rfl))
  f266 := Tryz.func209.trans (congrArg some (by kernel_rfl))
  f267 := Tryz.func180.trans (congrArg some (by kernel_rfl))
  f314 := Tryz.func210.trans (congrArg some (by kernel_rfl))
  t3 := Tryz.underlying3
  a3 := Tryz.isAgg3
  z3 := Tryz.sizeOf3
  v3 := Tryz.zeroValue3
  t4 := Tryz.underlying4
  a4 := Tryz.isAgg4
  z4 := Tryz.sizeOf4
  v4 := Tryz.zeroValue4
  t5 := Tryz.underlying5
  a5 := Tryz.isAgg5
  z5 := Tryz.sizeOf5
  v5 := Tryz.zeroValue5
  t9 := Tryz.underlying9
  a9 := Tryz.isAgg9
  z9 := Tryz.sizeOf9
  v9 := Tryz.zeroValue9
  t46 := Tryz.underlying68
  a46 := Tryz.isAgg68
  z46 := Tryz.sizeOf68
  v46 := Tryz.zeroValue68
  t51 := Tryz.underlying240
  a51 := Tryz.isAgg240
  z51 := Tryz.sizeOf240
  v51 := Tryz.zeroValue240
  t146 := Tryz.underlying261
  a146 := Tryz.isAgg261
  z146 := Tryz.sizeOf261
  v146 := Tryz.zeroValue261
  g1 := by kernel_rfl }
open Go.RowKit Go.Lib in
theorem Tryz.strings_Contains_one (s : ByteArray) (c : UInt8) (w : World) :
    Calls Tryz.prog 90 #[.string s, .string ⟨#[c]⟩] w fun e w' => e = .returned (.bool (decide (0 ≤ Lib.indexByte s.data.toList c))) ∧ w' = w := Any.strings_Contains_one Tryz.lays144 s c w
def Tryz.lays145_ren : Go.Shelf.Ren := ⟨fun | 145 => 99 | 220 => 128 | 219 => 151 | 217 => 177 | 225 => 178 | 224 => 179 | 267 => 180 | 266 => 209 | 314 => 210 | n => n, fun | 9 => 9 | 4 => 4 | 59 => 162 | 3 => 3 | 5 => 5 | 46 => 68 | 146 => 261 | 51 => 240 | n => n, fun | 1 => 0 | n => n⟩
theorem Tryz.lays145 : Go.Proofs.Lays.n145 Tryz.prog Tryz.lays145_ren := {
  mixed := by kernel_rfl
  f145 := Tryz.func99.trans (congrArg some (by kernel_rfl))
  f217 := Tryz.func177.trans (congrArg some (by kernel_rfl))
  f219 := Tryz.func151.trans (congrArg some (by kernel_rfl))
  f220 := Tryz.func128.trans (congrArg some (by kernel_rfl))
  f224 := Tryz.func179.trans (congrArg some (by kernel_rfl))
  f225 := Tryz.func178.trans (congrArg some (by kernel_rfl))
  f266 := Tryz.func209.trans (congrArg some (by kernel_rfl))
  f267 := Tryz.func180.trans (congrArg some (by kernel_rfl))
  f314 := Tryz.func210.trans (congrArg some (by kernel_rfl))
  t3 := Tryz.underlying3
  a3 := Tryz.isAgg3
  z3 := Tryz.sizeOf3
  v3 := Tryz.zeroValue3
  t4 := Tryz.underlying4
  a4 := Tryz.isAgg4
  z4 := Tryz.sizeOf4
  v4 := Tryz.zeroValue4
  t5 := Tryz.underlying5
  a5 := Tryz.isAgg5
  z5 := Tryz.sizeOf5
  v5 := Tryz.zeroValue5
  t9 := Tryz.underlying9
  a9 := Tryz.isAgg9
  z9 := Tryz.sizeOf9
  v9 := Tryz.zeroValue9
  t46 := Tryz.underlying68
  a46 := Tryz.isAgg68
  z46 := Tryz.sizeOf68
  v46 := Tryz.zeroValue68
  t51 := Tryz.underlying240
  a51 := Tryz.isAgg240
  z51 := Tryz.sizeOf240
  v51 := Tryz.zeroValue240
  t59 := Tryz.underlying162
  a59 := Tryz.isAgg162
  z59 := Tryz.sizeOf162
  v59 := Tryz.zeroValue162
  t146 := Tryz.underlying261
  a146 := Tryz.isAgg261
  z146 := Tryz.sizeOf261
  v146 := Tryz.zeroValue261
  g1 := by kernel_rfl }
open Go.RowKit Go.Lib in
theorem Tryz.strings_Cut (s sep : ByteArray) (m : Int) (w : World) (hs : s.size < 4294967281) (hm : w.cell? ⟨0, 0, none⟩ = some (.int .i64 m)) :
    Calls Tryz.prog 99 #[.string s, .string sep] w fun e w' => e = .returned (.tuple #[.string ⟨(Lib.cut s.data.toList sep.data.toList).1.toArray⟩, .string ⟨(Lib.cut s.data.toList sep.data.toList).2.1.toArray⟩, .bool (Lib.cut s.data.toList sep.data.toList).2.2]) ∧ ∃ n, w' = w.drewN n := Any.strings_Cut Tryz.lays145 s sep m w hs hm
def Tryz.lays237_ren : Go.Shelf.Ren := ⟨fun | 237 => 140 | 272 => 175 | 238 => 174 | 315 => 206 | 273 => 205 | 197 => 189 | 271 => 192 | 260 => 213 | 120 => 215 | n => n, fun | 9 => 9 | 40 => 213 | 4 => 4 | 3 => 3 | 105 => 246 | 21 => 21 | 0 => 0 | 5 => 5 | 119 => 280 | 46 => 68 | 139 => 283 | 138 => 282 | n => n, fun | 3 => 6 | 4 => 7 | n => n⟩
theorem Tryz.lays237 : Go.Proofs.Lays.n237 Tryz.prog Tryz.lays237_ren := {
  mixed := by kernel_rfl
  f120 := Tryz.func215.trans (congrArg some (by kernel_rfl))
  f197 := Tryz.func189.trans (congrArg some (by kernel_rfl))
  f237 := Tryz.func140.trans (congrArg some (by kernel_rfl))
  f238 := Tryz.func174.trans (congrArg some (by kernel_rfl))
  f260 := Tryz.func213.trans (congrArg some (by kernel_rfl))
  f271 := Tryz.func192.trans (congrArg some (by kernel_rfl))
  f272 := Tryz.func175.trans (congrArg some (by kernel_rfl))
  f273 := Tryz.func205.trans (congrArg some (by kernel_rfl))
  f315 := Tryz.func206.trans (congrArg some (by kernel_rfl))
  t0 := Tryz.underlying0
  a0 := Tryz.isAgg0
  z0 := Tryz.sizeOf0
  v0 := Tryz.zeroValue0
  t3 := Tryz.underlying3
  a3 := Tryz.isAgg3
  z3 := Tryz.sizeOf3
  v3 := Tryz.zeroValue3
  t4 := Tryz.underlying4
  a4 := Tryz.isAgg4
  z4 := Tryz.sizeOf4
  v4 := Tryz.zeroValue4
  t5 := Tryz.underlying5
  a5 := Tryz.isAgg5
  z5 := Tryz.sizeOf5
  v5 := Tryz.zeroValue5
  t9 := Tryz.underlying9
  a9 := Tryz.isAgg9
  z9 := Tryz.sizeOf9
  v9 := Tryz.zeroValue9
  t21 := Tryz.underlying21
  a21 := Tryz.isAgg21
  z21 := Tryz.sizeOf21
  v21 := Tryz.zeroValue21
  t40 := Tryz.underlying213
  a40 := Tryz.isAgg213
  z40 := Tryz.sizeOf213
  v40 := Tryz.zeroValue213
  t46 := Tryz.underlying68
  a46 := Tryz.isAgg68
  z46 := Tryz.sizeOf68
  v46 := Tryz.zeroValue68
  t105 := Tryz.underlying246
  a105 := Tryz.isAgg246
  z105 := Tryz.sizeOf246
  v105 := Tryz.zeroValue246
  t119 := Tryz.underlying280
  a119 := Tryz.isAgg280
  z119 := Tryz.sizeOf280
  t138 := Tryz.underlying282
  a138 := Tryz.isAgg282
  z138 := Tryz.sizeOf282
  v138 := Tryz.zeroValue282
  t139 := Tryz.underlying283
  a139 := Tryz.isAgg283
  z139 := Tryz.sizeOf283
  v139 := Tryz.zeroValue283
  g3 := by kernel_rfl
  g4 := by kernel_rfl }
def Tryz.lays146_ren : Go.Shelf.Ren := ⟨fun | 146 => 134 | 221 => 170 | 268 => 200 | 138 => 201 | 143 => 119 | 195 => 219 | 197 => 189 | 218 => 220 | 219 => 151 | 260 => 213 | 217 => 177 | 225 => 178 | 224 => 179 | 267 => 180 | 266 => 209 | 314 => 210 | n => n, fun | 9 => 9 | 31 => 77 | 3 => 3 | 4 => 4 | 0 => 0 | 105 => 246 | 21 => 21 | 5 => 5 | 46 => 68 | 119 => 280 | 139 => 283 | 138 => 282 | 146 => 261 | 51 => 240 | n => n, fun | 1 => 0 | 3 => 6 | 4 => 7 | n => n⟩
theorem Tryz.lays146 : Go.Proofs.Lays.n146 Tryz.prog Tryz.lays146_ren := {
  mixed := by kernel_rfl
  f138 := Tryz.func201.trans (congrArg some (by kernel_rfl))
  f143 := Tryz.func119.trans (congrArg some (by kernel_rfl))
  f146 := Tryz.func134.trans (congrArg some (by kernel_rfl))
  f195 := Tryz.func219.trans (congrArg some (by kernel_rfl))
  f197 := Tryz.func189.trans (congrArg some (by kernel_rfl))
  f217 := Tryz.func177.trans (congrArg some (by kernel_rfl))
  f218 := Tryz.func220.trans (congrArg some (by kernel_rfl))
  f219 := Tryz.func151.trans (congrArg some (by kernel_rfl))
  f221 := Tryz.func170.trans (congrArg some (by kernel_rfl))
  f224 := Tryz.func179.trans (congrArg some (by kernel_rfl))
  f225 := Tryz.func178.trans (congrArg some (by kernel_rfl))
  f260 := Tryz.func213.trans (congrArg some (by kernel_rfl))
  f266 := Tryz.func209.trans (congrArg some (by kernel_rfl))
  f267 := Tryz.func180.trans (congrArg some (by kernel_rfl))
  f268 := Tryz.func200.trans (congrArg some (by kernel_rfl))
  f314 := Tryz.func210.trans (congrArg some (by kernel_rfl))
  t0 := Tryz.underlying0
  a0 := Tryz.isAgg0
  z0 := Tryz.sizeOf0
  v0 := Tryz.zeroValue0
  t3 := Tryz.underlying3
  a3 := Tryz.isAgg3
  z3 := Tryz.sizeOf3
  v3 := Tryz.zeroValue3
  t4 := Tryz.underlying4
  a4 := Tryz.isAgg4
  z4 := Tryz.sizeOf4
  v4 := Tryz.zeroValue4
  t5 := Tryz.underlying5
  a5 := Tryz.isAgg5
  z5 := Tryz.sizeOf5
  v5 := Tryz.zeroValue5
  t9 := Tryz.underlying9
  a9 := Tryz.isAgg9
  z9 := Tryz.sizeOf9
  v9 := Tryz.zeroValue9
  t21 := Tryz.underlying21
  a21 := Tryz.isAgg21
  z21 := Tryz.sizeOf21
  v21 := Tryz.zeroValue21
  t31 := Tryz.underlying77
  a31 := Tryz.isAgg77
  z31 := Tryz.sizeOf77
  v31 := Tryz.zeroValue77
  t46 := Tryz.underlying68
  a46 := Tryz.isAgg68
  z46 := Tryz.sizeOf68
  v46 := Tryz.zeroValue68
  t51 := Tryz.underlying240
  a51 := Tryz.isAgg240
  z51 := Tryz.sizeOf240
  v51 := Tryz.zeroValue240
  t105 := Tryz.underlying246
  a105 := Tryz.isAgg246
  z105 := Tryz.sizeOf246
  v105 := Tryz.zeroValue246
  t119 := Tryz.underlying280
  a119 := Tryz.isAgg280
  z119 := Tryz.sizeOf280
  t138 := Tryz.underlying282
  a138 := Tryz.isAgg282
  z138 := Tryz.sizeOf282
  v138 := Tryz.zeroValue282
  t139 := Tryz.underlying283
  a139 := Tryz.isAgg283
  z139 := Tryz.sizeOf283
  v139 := Tryz.zeroValue283
  t146 := Tryz.underlying261
  a146 := Tryz.isAgg261
  z146 := Tryz.sizeOf261
  v146 := Tryz.zeroValue261
  g1 := by kernel_rfl
  g3 := by kernel_rfl
  g4 := by kernel_rfl }
open Go.RowKit Go.Lib in
theorem Tryz.strings_Split (s sep : ByteArray) (m : Int) (w : World) (hs : s.size < 4294967281) (hm : w.cell? ⟨0, 0, none⟩ = some (.int .i64 m)) (h1 : 1 ≤ sep.size) :
    Calls Tryz.prog 134 #[.string s, .string sep] w fun e w' =>
      e = .returned (.slice (some ⟨w.heap.size, 0, none⟩) (Lib.countB s sep + 1) (Lib.countB s sep + 1)) ∧ w' = w.alloc (.cells ((Lib.splitB sep 0 (Lib.countB s sep) s).map Value.string).toArray 9) := Any.strings_Split Tryz.lays146 (by kernel_rfl) s sep m w hs hm h1
open Go.RowKit Go.Lib in
theorem Tryz.strings_TrimFunc_grows (g : Nat) (lb : Array Value) (eg : ∀ args w, (callFunc g args).run Tryz.prog w = .ok (.enter g args) w) (p : Nat → Bool) (s : ByteArray) (w : World) (hs : s.size ≤ 9223372036854775807) (hT : Lib.Utf8Tabs 6 7 w) (hp : PredGrows Tryz.prog g lb p w) :
    Calls Tryz.prog 140 #[.string s, .func (.func g) #[] lb] w fun e w' => e = .returned (.string (Lib.trimF p s)) ∧ Below w.heap.size w w' := Any.strings_TrimFunc_grows Tryz.lays237 g lb eg p s w hs hT hp
def Tryz.lays189_ren : Go.Shelf.Ren := ⟨fun | 189 => 172 | 125 => 204 | 257 => 203 | 128 => 230 | 129 => 182 | 294 => 221 | 295 => 222 | 296 => 223 | 297 => 224 | 298 => 225 | 299 => 226 | 216 => 227 | 300 => 228 | 301 => 229 | 328 => 235 | 329 => 236 | 330 => 237 | 331 => 238 | 332 => 239 | 215 => 240 | 343 => 241 | n => n, fun | 28 => 32 | 3 => 3 | 46 => 68 | 0 => 0 | 51 => 240 | 53 => 219 | 4 => 4 | 183 => 273 | 182 => 272 | 131 => 146 | 5 => 5 | 9 => 9 | 218 => 288 | 222 => 292 | 228 => 294 | 229 => 295 | n => n, fun | n => n⟩
theorem Tryz.lays189 : Go.Proofs.Lays.n189 Tryz.prog Tryz.lays189_ren := {
  mixed := by kernel_rfl
  f125 := Tryz.func204.trans (congrArg some (by kernel_rfl))
  f128 := Tryz.func230.trans (congrArg some (by kernel_rfl))
  f129 := Tryz.func182.trans (congrArg some (by kernel_rfl))
  f189 := Tryz.func172.trans (congrArg some (by kernel_rfl))
  f215 := Tryz.func240.trans (congrArg some (by kernel_rfl))
  f216 := Tryz.func227.trans (congrArg some (by kernel_rfl))
  f257 := Tryz.func203.trans (congrArg some (by kernel_rfl))
  f294 := Tryz.func221.trans (congrArg some (by kernel_rfl))
  f295 := Tryz.func222.trans (congrArg some (by kernel_rfl))
  f296 := Tryz.func223.trans (congrArg some (by kernel_rfl))
  f297 := Tryz.func224.trans (congrArg some (by kernel_rfl))
  f298 := Tryz.func225.trans (congrArg some (by kernel_rfl))
  f299 := Tryz.func226.trans (congrArg some (by kernel_rfl))
  f300 := Tryz.func228.trans (congrArg some (by kernel_rfl))
  f301 := Tryz.func229.trans (congrArg some (by kernel_rfl))
  f328 := Tryz.func235.trans (congrArg some (by kernel_rfl))
  f329 := Tryz.func236.trans (congrArg some (by kernel_rfl))
  f330 := Tryz.func237.trans (congrArg some (by kernel_rfl))
  f331 := Tryz.func238.trans (congrArg some (by kernel_rfl))
  f332 := Tryz.func239.trans (congrArg some (by kernel_rfl))
  f343 := Tryz.func241.trans (congrArg some (by kernel_rfl))
  t0 := Tryz.underlying0
  a0 := Tryz.isAgg0
  z0 := Tryz.sizeOf0
  v0 := Tryz.zeroValue0
  t3 := Tryz.underlying3
  a3 := Tryz.isAgg3
  z3 := Tryz.sizeOf3
  v3 := Tryz.zeroValue3
  t4 := Tryz.underlying4
  a4 := Tryz.isAgg4
  z4 := Tryz.sizeOf4
  v4 := Tryz.zeroValue4
  t5 := Tryz.underlying5
  a5 := Tryz.isAgg5
  z5 := Tryz.sizeOf5
  v5 := Tryz.zeroValue5
  t9 := Tryz.underlying9
  a9 := Tryz.isAgg9
  z9 := Tryz.sizeOf9
  v9 := Tryz.zeroValue9
  t28 := Tryz.underlying32
  a28 := Tryz.isAgg32
  z28 := Tryz.sizeOf32
  v28 := Tryz.zeroValue32
  t46 := Tryz.underlying68
  a46 := Tryz.isAgg68
  z46 := Tryz.sizeOf68
  v46 := Tryz.zeroValue68
  t51 := Tryz.underlying240
  a51 := Tryz.isAgg240
  z51 := Tryz.sizeOf240
  v51 := Tryz.zeroValue240
  t53 := Tryz.underlying219
  a53 := Tryz.isAgg219
  z53 := Tryz.sizeOf219
  v53 := Tryz.zeroValue219
  t131 := Tryz.underlying146
  a131 := Tryz.isAgg146
  z131 := Tryz.sizeOf146
  v131 := Tryz.zeroValue146
  t182 := Tryz.underlying272
  a182 := Tryz.isAgg272
  z182 := Tryz.sizeOf272
  v182 := Tryz.zeroValue272
  t183 := Tryz.underlying273
  a183 := Tryz.isAgg273
  z183 := Tryz.sizeOf273
  v183 := Tryz.zeroValue273
  t218 := Tryz.underlying288
  a218 := Tryz.isAgg288
  z218 := Tryz.sizeOf288
  v218 := Tryz.zeroValue288
  t222 := Tryz.underlying292
  a222 := Tryz.isAgg292
  z222 := Tryz.sizeOf292
  v222 := Tryz.zeroValue292
  t228 := Tryz.underlying294
  a228 := Tryz.isAgg294
  z228 := Tryz.sizeOf294
  v228 := Tryz.zeroValue294
  t229 := Tryz.underlying295
  a229 := Tryz.isAgg295
  z229 := Tryz.sizeOf295
  v229 := Tryz.zeroValue295 }
open Go.RowKit Go.Sort in
theorem Tryz.slices_Sort_int_none (p : Option Addr) (cap : Nat) (w : World) :
    Calls Tryz.prog 172 #[.slice p 0 cap] w fun e w' => e = .returned (.tuple #[]) ∧ w' = w := Any.slices_Sort_int_none Tryz.lays189 p cap w
def Tryz.sortA_ren : Go.Shelf.Ren := ⟨fun | 5 => 172 | 8 => 204 | 7 => 203 | 19 => 230 | 20 => 182 | 10 => 221 | 11 => 222 | 12 => 223 | 13 => 224 | 14 => 225 | 15 => 226 | 16 => 227 | 17 => 228 | 18 => 229 | 30 => 235 | 31 => 236 | 32 => 237 | 33 => 238 | 34 => 239 | 35 => 240 | 40 => 241 | n => n, fun | 23 => 32 | 25 => 3 | 3 => 3 | 32 => 68 | 22 => 32 | 0 => 0 | 44 => 240 | 46 => 219 | 4 => 4 | 36 => 273 | 35 => 272 | 41 => 146 | 5 => 5 | 9 => 9 | 53 => 288 | 57 => 292 | 63 => 294 | 64 => 295 | n => n, fun | n => n⟩
theorem Tryz.sortA : Go.Proofs.SlLaysM.n5 Tryz.prog Tryz.sortA_ren := {
  mixed := by kernel_rfl
  f5 := ⟨Tryz.f172.name, by decide, Tryz.func172.trans (congrArg some (by kernel_rfl))⟩
  f7 := ⟨Tryz.f203.name, by decide, Tryz.func203.trans (congrArg some (by kernel_rfl))⟩
  f8 := Tryz.func204.trans (congrArg some (by kernel_rfl))
  f10 := ⟨Tryz.f221.name, by decide, Tryz.func221.trans (congrArg some (by kernel_rfl))⟩
  f11 := ⟨Tryz.f222.name, by decide, Tryz.func222.trans (congrArg some (by kernel_rfl))⟩
  f12 := ⟨Tryz.f223.name, by decide, Tryz.func223.trans (congrArg some (by kernel_rfl))⟩
  f13 := ⟨Tryz.f224.name, by decide, Tryz.func224.trans (congrArg some (by kernel_rfl))⟩
  f14 := ⟨Tryz.f225.name, by decide, Tryz.func225.trans (congrArg some (by kernel_rfl))⟩
  f15 := ⟨Tryz.f226.name, by decide, Tryz.func226.trans (congrArg some (by kernel_rfl))⟩
  f16 := ⟨Tryz.f227.name, by decide, Tryz.func227.trans (congrArg some (by kernel_rfl))⟩
  f17 := ⟨Tryz.f228.name, by decide, Tryz.func228.trans (congrArg some (by kernel_rfl))⟩
  f18 := ⟨Tryz.f229.name, by decide, Tryz.func229.trans (congrArg some (by kernel_rfl))⟩
  f19 := Tryz.func230.trans (congrArg some (by kernel_rfl))
  f20 := Tryz.func182.trans (congrArg some (by kernel_rfl))
  f30 := ⟨Tryz.f235.name, by decide, Tryz.func235.trans (congrArg some (by kernel_rfl))⟩
  f31 := Tryz.func236.trans (congrArg some (by kernel_rfl))
  f32 := Tryz.func237.trans (congrArg some (by kernel_rfl))
  f33 := ⟨Tryz.f238.name, by decide, Tryz.func238.trans (congrArg some (by kernel_rfl))⟩
  f34 := ⟨Tryz.f239.name, by decide, Tryz.func239.trans (congrArg some (by kernel_rfl))⟩
  f35 := ⟨Tryz.f240.name, by decide, Tryz.func240.trans (congrArg some (by kernel_rfl))⟩
  f40 := ⟨Tryz.f241.name, by decide, Tryz.func241.trans (congrArg some (by kernel_rfl))⟩
  t0 := Tryz.underlying0
  a0 := Tryz.isAgg0
  z0 := Tryz.sizeOf0
  v0 := Tryz.zeroValue0
  t3 := Tryz.underlying3
  a3 := Tryz.isAgg3
  z3 := Tryz.sizeOf3
  v3 := Tryz.zeroValue3
  t4 := Tryz.underlying4
  a4 := Tryz.isAgg4
  z4 := Tryz.sizeOf4
  v4 := Tryz.zeroValue4
  t5 := Tryz.underlying5
  a5 := Tryz.isAgg5
  z5 := Tryz.sizeOf5
  v5 := Tryz.zeroValue5
  t9 := Tryz.underlying9
  a9 := Tryz.isAgg9
  z9 := Tryz.sizeOf9
  v9 := Tryz.zeroValue9
  t22 := Tryz.underlying32
  a22 := Tryz.isAgg32
  z22 := Tryz.sizeOf32
  v22 := Tryz.zeroValue32
  t23 := Tryz.underlying32
  a23 := Tryz.isAgg32
  z23 := Tryz.sizeOf32
  v23 := Tryz.zeroValue32
  t25 := Tryz.underlying3
  a25 := Tryz.isAgg3
  z25 := Tryz.sizeOf3
  v25 := Tryz.zeroValue3
  t32 := Tryz.underlying68
  a32 := Tryz.isAgg68
  z32 := Tryz.sizeOf68
  v32 := Tryz.zeroValue68
  t35 := Tryz.underlying272
  a35 := Tryz.isAgg272
  z35 := Tryz.sizeOf272
  v35 := Tryz.zeroValue272
  t36 := Tryz.underlying273
  a36 := Tryz.isAgg273
  z36 := Tryz.sizeOf273
  v36 := Tryz.zeroValue273
  t41 := Tryz.underlying146
  a41 := Tryz.isAgg146
  z41 := Tryz.sizeOf146
  v41 := Tryz.zeroValue146
  t44 := Tryz.underlying240
  a44 := Tryz.isAgg240
  z44 := Tryz.sizeOf240
  v44 := Tryz.zeroValue240
  t46 := Tryz.underlying219
  a46 := Tryz.isAgg219
  z46 := Tryz.sizeOf219
  v46 := Tryz.zeroValue219
  t53 := Tryz.underlying288
  a53 := Tryz.isAgg288
  z53 := Tryz.sizeOf288
  v53 := Tryz.zeroValue288
  t57 := Tryz.underlying292
  a57 := Tryz.isAgg292
  z57 := Tryz.sizeOf292
  v57 := Tryz.zeroValue292
  t63 := Tryz.underlying294
  a63 := Tryz.isAgg294
  z63 := Tryz.sizeOf294
  v63 := Tryz.zeroValue294
  t64 := Tryz.underlying295
  a64 := Tryz.isAgg295
  z64 := Tryz.sizeOf295
  v64 := Tryz.zeroValue295 }
open Go.RowKit Go.Sort in
theorem Tryz.slices_Sort_int (blk off cap : Nat) (zs : List Int) (w : World) (hH : Holds (Value.int .i64) w blk off zs.toArray) (hblk : blk < w.heap.size) (hsz : zs.length < 4611686018427387904) :
    Calls Tryz.prog 172 #[.slice (some ⟨blk, off, none⟩) zs.length cap] w fun e w' =>
      e = .returned (.tuple #[]) ∧ ∃ n os, w' = grow (putRow (Value.int .i64) (Sort.ahead w n) blk off (zs.mergeSort fun x y => decide (x ≤ y)).toArray) os := AnyM.slices_Sort_int Tryz.sortA blk off cap zs w hH hblk hsz

end Go.Proofs
