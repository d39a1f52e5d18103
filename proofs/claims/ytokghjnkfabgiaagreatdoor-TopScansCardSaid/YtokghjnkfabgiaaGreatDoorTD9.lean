import Derived.Shelf.Strings.Builder1
import Derived.Shelf.Strings.OnBuilder
import Derived.Shelf.Strings.TrimSpace
import Derived.Shelf.Small.Strs
import Derived.Shelf.Strings.BuilderF
import Derived.Shelf.Strings.BuilderK
import Derived.Shelf.Strconv.Itoa0
import Derived.Shelf.Strconv.Itoa1
import Derived.Shelf.LaysM
import Derived.Shelf.Strconv.Itoa2
import Derived.Shelf.Strconv.Itoa3
import Derived.Shelf.Strconv.Itoa4
import Derived.Shelf.Strconv.ParseIntEmpty
import Derived.Shelf.Strconv.SyntaxError
import Derived.Shelf.LaysC
import Derived.Shelf.Strconv.ToError
import Derived.Shelf.Strconv.Lower
import Derived.Shelf.Strconv.ParseUint10
import Derived.Shelf.Strconv.ParseUint10Empty
import Derived.Shelf.Strconv.ParseUint10Any
import Derived.Shelf.Strconv.ParseInt10
import Derived.Shelf.Strconv.RangeError
import Derived.Shelf.Strconv.ToErrorRange
import Derived.Shelf.Strconv.ParseUintEmpty
import Derived.Shelf.Strconv.ParseUint10b64
import Derived.Shelf.Strconv.ParseUint10b32
import Derived.Shelf.Strconv.ParseUint10b16
import Derived.Shelf.Strconv.ParseUint10b8
import Derived.Shelf.Strconv.ParseUint10At
import Derived.Shelf.Strconv.ParseInt10At64
import Derived.Shelf.Strconv.ParseInt10At32
import Derived.Shelf.Strconv.ParseInt10At16
import Derived.Shelf.Strconv.ParseInt10At8
import Derived.Shelf.Strconv.ParseInt10All
import Derived.Shelf.Strconv.ParseIntPublic10
import Derived.Shelf.Strconv.ErrVarParseInt
import Derived.Shelf.Strings.Search1
import Derived.Shelf.Strings.Search2
import Derived.Shelf.Strings.Search3
import Derived.Shelf.Strings.Count
import Derived.Shelf.Strings.Shaped
import Derived.Shelf.Strings.Prefix
import Derived.Shelf.Strings.Split
import Derived.Shelf.Strings.Fields
import Derived.Shelf.Strings.Replace
import Derived.Shelf.Strings.SplitShaped
import Derived.Shelf.Slices.Turned
import Derived.Ground.SlgnProg
import Derived.Shelf.SlicesG.Turned
import Derived.Shelf.SlicesG.Cells
import Derived.Test.YtokghjnkfabgiaaGreatDoorTD1
set_option linter.unusedVariables false
set_option linter.unusedSimpArgs false
set_option maxRecDepth 100000
namespace Go.Proofs.YtokghjnkfabgiaaGreatDoor
open Go.Shelf
def Tryz.lays156_ren : Go.Shelf.Ren := ⟨fun | 156 => 105 | 165 => 48 | 166 => 50 | 169 => 41 | 240 => 77 | 241 => 78 | 276 => 110 | 277 => 111 | n => n, fun | 31 => 85 | 9 => 9 | 3 => 3 | 4 => 4 | 0 => 0 | 20 => 20 | 72 => 100 | 76 => 112 | 70 => 98 | 37 => 53 | 75 => 111 | 127 => 144 | 164 => 179 | 5 => 5 | 80 => 104 | n => n, fun | n => n⟩
theorem Tryz.lays156 : Go.Proofs.Lays.n156 Tryz.prog Tryz.lays156_ren := {
 mixed := by kernel_rfl
 f156 := Tryz.func105.trans (congrArg some (by kernel_rfl))
 f165 := Tryz.func48.trans (congrArg some (by kernel_rfl))
 f166 := Tryz.func50.trans (congrArg some (by kernel_rfl))
 f169 := Tryz.func41.trans (congrArg some (by kernel_rfl))
 f240 := Tryz.func77.trans (congrArg some (by kernel_rfl))
 f241 := Tryz.func78.trans (congrArg some (by kernel_rfl))
 f276 := Tryz.func110.trans (congrArg some (by kernel_rfl))
 f277 := Tryz.func111.trans (congrArg some (by kernel_rfl))
 t0 := Tryz.underlying0
 a0 := Tryz.isAgg0
 z0 := Tryz.sizeOf0
 v0 := Tryz.zeroValue0
 t3 := Tryz.underlying3
 a3 := Tryz.isAgg3
 z3 := Tryz.sizeOf3
 v3 := Tryz.zeroValue3
 t4 := Tryz.underlying4
 a4 := Tryz.isAgg4
 z4 := Tryz.sizeOf4
 v4 := Tryz.zeroValue4
 t9 := Tryz.underlying9
 a9 := Tryz.isAgg9
 z9 := Tryz.sizeOf9
 v9 := Tryz.zeroValue9
 t20 := Tryz.underlying20
 a20 := Tryz.isAgg20
 z20 := Tryz.sizeOf20
 v20 := Tryz.zeroValue20
 t31 := Tryz.underlying85
 a31 := Tryz.isAgg85
 z31 := Tryz.sizeOf85
 v31 := Tryz.zeroValue85
 t37 := Tryz.underlying53
 a37 := Tryz.isAgg53
 z37 := Tryz.sizeOf53
 v37 := Tryz.zeroValue53
 t70 := Tryz.underlying98
 a70 := Tryz.isAgg98
 z70 := Tryz.sizeOf98
 v70 := Tryz.zeroValue98
 t72 := Tryz.underlying100
 a72 := Tryz.isAgg100
 z72 := Tryz.sizeOf100
 v72 := Tryz.zeroValue100
 t75 := Tryz.underlying111
 a75 := Tryz.isAgg111
 z75 := Tryz.sizeOf111
 v75 := Tryz.zeroValue111
 t76 := Tryz.underlying112
 a76 := Tryz.isAgg112
 z76 := Tryz.sizeOf112
 v76 := Tryz.zeroValue112
 t127 := Tryz.underlying144
 a127 := Tryz.isAgg144
 z127 := Tryz.sizeOf144
 v127 := Tryz.zeroValue144
 t164 := Tryz.underlying179
 a164 := Tryz.isAgg179
 z164 := Tryz.sizeOf179
 v164 := Tryz.zeroValue179 }
theorem Tryz.Builder_Extra_156 : Builder.Extra Tryz.prog Tryz.lays156_ren := {
 sizeBuilder := by kernel_rfl
 liesBuilder := by kernel_rfl
 t5 := Tryz.underlying5
 a5 := Tryz.isAgg5
 z5 := Tryz.sizeOf5
 v5 := Tryz.zeroValue5
 infoByte := by kernel_rfl
 cellsByte := by kernel_rfl
 sizeByte := by kernel_rfl
 neB5 := by decide }
open Go.RowKit in
theorem Tryz.strings_Join (bk o c : Nat) (xs : List ByteArray) (sep : ByteArray) (w : World) (hcells : ∀ (j : Nat) x, xs[j]? = some x → w.cell? ⟨bk, o + j, none⟩ = some (.string x)) (hbk : bk < w.heap.size) (hN : xs.length ≤ 140737488355328) (hcap : xs.length ≤ c) (hlen : (Lib.join (xs.map (·.data.toList)) sep.data.toList).length ≤ 140737488355328) :
  Calls Tryz.prog 105 #[.slice (some ⟨bk, o, none⟩) xs.length c, .string sep] w fun e w' => e = .returned (.string ⟨(Lib.join (xs.map (·.data.toList)) sep.data.toList).toArray⟩) ∧ Below w.heap.size w w' := Any.strings_Join Tryz.lays156 Tryz.Builder_Extra_156 bk o c xs sep w hcells hbk hN hcap hlen
def Tryz.lays163_ren : Go.Shelf.Ren := ⟨fun | 163 => 28 | 237 => 53 | 199 => 54 | 238 => 55 | 272 => 85 | 261 => 86 | 273 => 87 | 197 => 51 | 315 => 120 | 311 => 121 | 312 => 122 | 271 => 123 | 260 => 80 | 120 => 152 | n => n, fun | 9 => 9 | 37 => 53 | 3 => 3 | 0 => 0 | 5 => 5 | 4 => 4 | 40 => 117 | 119 => 118 | 21 => 21 | 51 => 155 | 141 => 157 | 105 => 114 | 196 => 194 | 193 => 191 | 198 => 197 | 49 => 195 | 194 => 192 | 201 => 200 | 226 => 234 | 46 => 86 | 227 => 235 | 139 => 185 | 138 => 184 | n => n, fun | 0 => 0 | 6 => 1 | 3 => 3 | 4 => 4 | n => n⟩
theorem Tryz.lays163 : Go.Proofs.Lays.n163 Tryz.prog Tryz.lays163_ren := {
 mixed := by kernel_rfl
 f120 := Tryz.func152.trans (congrArg some (by kernel_rfl))
 f163 := Tryz.func28.trans (congrArg some (by kernel_rfl))
 f197 := Tryz.func51.trans (congrArg some (by kernel_rfl))
 f199 := Tryz.func54.trans (congrArg some (by kernel_rfl))
 f237 := Tryz.func53.trans (congrArg some (by kernel_rfl))
 f238 := Tryz.func55.trans (congrArg some (by kernel_rfl))
 f260 := Tryz.func80.trans (congrArg some (by kernel_rfl))
 f261 := Tryz.func86.trans (congrArg some (by kernel_rfl))
 f271 := Tryz.func123.trans (congrArg some (by kernel_rfl))
 f272 := Tryz.func85.trans (congrArg some (by kernel_rfl))
 f273 := Tryz.func87.trans (congrArg some (by kernel_rfl))
 f311 := Tryz.func121.trans (congrArg some (by kernel_rfl))
 f312 := Tryz.func122.trans (congrArg some (by kernel_rfl))
 f315 := Tryz.func120.trans (congrArg some (by kernel_rfl))
 t0 := Tryz.underlying0
 a0 := Tryz.isAgg0
 z0 := Tryz.sizeOf0
 v0 := Tryz.zeroValue0
 t3 := Tryz.underlying3
 a3 := Tryz.isAgg3
 z3 := Tryz.sizeOf3
 v3 := Tryz.zeroValue3
 t4 := Tryz.underlying4
 a4 := Tryz.isAgg4
 z4 := Tryz.sizeOf4
 v4 := Tryz.zeroValue4
 t5 := Tryz.underlying5
 a5 := Tryz.isAgg5
 z5 := Tryz.sizeOf5
 v5 := Tryz.zeroValue5
 t9 := Tryz.underlying9
 a9 := Tryz.isAgg9
 z9 := Tryz.sizeOf9
 v9 := Tryz.zeroValue9
 t21 := Tryz.underlying21
 a21 := Tryz.isAgg21
 z21 := Tryz.sizeOf21
 v21 := Tryz.zeroValue21
 t37 := Tryz.underlying53
 a37 := Tryz.isAgg53
 z37 := Tryz.sizeOf53
 v37 := Tryz.zeroValue53
 t40 := Tryz.underlying117
 a40 := Tryz.isAgg117
 z40 := Tryz.sizeOf117
 v40 := Tryz.zeroValue117
 t46 := Tryz.underlying86
 a46 := Tryz.isAgg86
 z46 := Tryz.sizeOf86
 v46 := Tryz.zeroValue86
 t49 := Tryz.underlying195
 a49 := Tryz.isAgg195
 z49 := Tryz.sizeOf195
 v49 := Tryz.zeroValue195
 t51 := Tryz.underlying155
 a51 := Tryz.isAgg155
 z51 := Tryz.sizeOf155
 v51 := Tryz.zeroValue155
 t105 := Tryz.underlying114
 a105 := Tryz.isAgg114
 z105 := Tryz.sizeOf114
 v105 := Tryz.zeroValue114
 t119 := Tryz.underlying118
 a119 := Tryz.isAgg118
 z119 := Tryz.sizeOf118
 t138 := Tryz.underlying184
 a138 := Tryz.isAgg184
 z138 := Tryz.sizeOf184
 v138 := Tryz.zeroValue184
 t139 := Tryz.underlying185
 a139 := Tryz.isAgg185
 z139 := Tryz.sizeOf185
 v139 := Tryz.zeroValue185
 t141 := Tryz.underlying157
 a141 := Tryz.isAgg157
 z141 := Tryz.sizeOf157
 v141 := Tryz.zeroValue157
 t193 := Tryz.underlying191
 a193 := Tryz.isAgg191
 z193 := Tryz.sizeOf191
 v193 := Tryz.zeroValue191
 t194 := Tryz.underlying192
 a194 := Tryz.isAgg192
 z194 := Tryz.sizeOf192
 v194 := Tryz.zeroValue192
 t196 := Tryz.underlying194
 a196 := Tryz.isAgg194
 z196 := Tryz.sizeOf194
 v196 := Tryz.zeroValue194
 t198 := Tryz.underlying197
 a198 := Tryz.isAgg197
 z198 := Tryz.sizeOf197
 v198 := Tryz.zeroValue197
 t201 := Tryz.underlying200
 a201 := Tryz.isAgg200
 z201 := Tryz.sizeOf200
 v201 := Tryz.zeroValue200
 t226 := Tryz.underlying234
 a226 := Tryz.isAgg234
 z226 := Tryz.sizeOf234
 v226 := Tryz.zeroValue234
 t227 := Tryz.underlying235
 a227 := Tryz.isAgg235
 z227 := Tryz.sizeOf235
 v227 := Tryz.zeroValue235
 g0 := by kernel_rfl
 g3 := by kernel_rfl
 g4 := by kernel_rfl
 g6 := by kernel_rfl }
theorem Tryz.Space_Extra_163 : Space.Extra Tryz.prog Tryz.lays163_ren := {
 gNamed := by kernel_rfl }
open Go.RowKit in
theorem Tryz.strings_TrimSpace (s : ByteArray) (w : World) (hs : s.size ≤ 9223372036854775807) (hascii : ∀ (j : Nat) b, s.data.toList[j]? = some b → b.toNat < 128) (htab : Lib.TabIs Tryz.prog w "strings.asciiSpace" .u8 Lib.asciiSpaceTab) :
  Calls Tryz.prog 28 #[.string s] w fun e w' => e = .returned (.string ⟨(Lib.trimSpace s.data.toList).toArray⟩) ∧ w' = Lib.bytesWorld w 5 s := Any.strings_TrimSpace Tryz.lays163 Tryz.Space_Extra_163 s w hs hascii htab
def Tryz.lays137_ren : Go.Shelf.Ren := ⟨fun | 137 => 74 | 217 => 109 | 266 => 148 | n => n, fun | 9 => 9 | 5 => 5 | 3 => 3 | n => n, fun | n => n⟩
theorem Tryz.lays137 : Go.Proofs.Lays.n137 Tryz.prog Tryz.lays137_ren := {
 mixed := by kernel_rfl
 f137 := Tryz.func74.trans (congrArg some (by kernel_rfl))
 f217 := Tryz.func109.trans (congrArg some (by kernel_rfl))
 f266 := Tryz.func148.trans (congrArg some (by kernel_rfl))
 t3 := Tryz.underlying3
 a3 := Tryz.isAgg3
 z3 := Tryz.sizeOf3
 v3 := Tryz.zeroValue3
 t5 := Tryz.underlying5
 a5 := Tryz.isAgg5
 z5 := Tryz.sizeOf5
 v5 := Tryz.zeroValue5
 t9 := Tryz.underlying9
 a9 := Tryz.isAgg9
 z9 := Tryz.sizeOf9
 v9 := Tryz.zeroValue9 }
open Go.RowKit in
theorem Tryz.strings_IndexByte (s : ByteArray) (c : Int) (w : World) :
  Calls Tryz.prog 74 #[.string s, .int .u8 c] w fun e w' => e = .returned (.int .i64 (Lib.indexByte s.data.toList c.toNat.toUInt8)) ∧ w' = w := Any.strings_IndexByte Tryz.lays137 s c w
def Tryz.laysM173_ren : Go.Shelf.Ren := ⟨fun | 173 => 27 | 246 => 52 | 283 => 81 | 284 => 82 | 285 => 83 | 286 => 84 | 129 => 116 | 317 => 115 | 318 => 117 | 319 => 118 | 320 => 119 | 337 => 150 | 338 => 151 | n => n, fun | 2 => 2 | 3 => 3 | 9 => 9 | 4 => 4 | 171 => 149 | 0 => 0 | 53 => 150 | 37 => 53 | 5 => 5 | 173 => 153 | 212 => 187 | 51 => 155 | 20 => 20 | 213 => 188 | 46 => 86 | 232 => 255 | 233 => 256 | n => n, fun | 17 => 5 | 18 => 8 | 19 => 9 | n => n⟩
theorem Tryz.laysM173 : Go.Proofs.LaysM.n173 Tryz.prog Tryz.laysM173_ren := {
 mixed := by kernel_rfl
 f129 := Tryz.func116.trans (congrArg some (by kernel_rfl))
 f173 := Tryz.func27.trans (congrArg some (by kernel_rfl))
 f246 := Tryz.func52.trans (congrArg some (by kernel_rfl))
 f283 := Tryz.func81.trans (congrArg some (by kernel_rfl))
 f284 := Tryz.func82.trans (congrArg some (by kernel_rfl))
 f285 := Tryz.func83.trans (congrArg some (by kernel_rfl))
 f286 := Tryz.func84.trans (congrArg some (by kernel_rfl))
 f317 := Tryz.func115.trans (congrArg some (by kernel_rfl))
 f318 := Tryz.func117.trans (congrArg some (by kernel_rfl))
 f319 := Tryz.func118.trans (congrArg some (by kernel_rfl))
 f320 := Tryz.func119.trans (congrArg some (by kernel_rfl))
 f337 := Tryz.func150.trans (congrArg some (by kernel_rfl))
 f338 := Tryz.func151.trans (congrArg some (by kernel_rfl))
 t0 := Tryz.underlying0
 a0 := Tryz.isAgg0
 z0 := Tryz.sizeOf0
 v0 := Tryz.zeroValue0
 t2 := Tryz.underlying2
 a2 := Tryz.isAgg2
 z2 := Tryz.sizeOf2
 v2 := Tryz.zeroValue2
 t3 := Tryz.underlying3
 a3 := Tryz.isAgg3
 z3 := Tryz.sizeOf3
 v3 := Tryz.zeroValue3
 t4 := Tryz.underlying4
 a4 := Tryz.isAgg4
 z4 := Tryz.sizeOf4
 v4 := Tryz.zeroValue4
 t5 := Tryz.underlying5
 a5 := Tryz.isAgg5
 z5 := Tryz.sizeOf5
 v5 := Tryz.zeroValue5
 t9 := Tryz.underlying9
 a9 := Tryz.isAgg9
 z9 := Tryz.sizeOf9
 v9 := Tryz.zeroValue9
 t20 := Tryz.underlying20
 a20 := Tryz.isAgg20
 z20 := Tryz.sizeOf20
 v20 := Tryz.zeroValue20
 t37 := Tryz.underlying53
 a37 := Tryz.isAgg53
 z37 := Tryz.sizeOf53
 v37 := Tryz.zeroValue53
 t46 := Tryz.underlying86
 a46 := Tryz.isAgg86
 z46 := Tryz.sizeOf86
 v46 := Tryz.zeroValue86
 t51 := Tryz.underlying155
 a51 := Tryz.isAgg155
 z51 := Tryz.sizeOf155
 v51 := Tryz.zeroValue155
 t53 := Tryz.underlying150
 a53 := Tryz.isAgg150
 z53 := Tryz.sizeOf150
 v53 := Tryz.zeroValue150
 t171 := Tryz.underlying149
 a171 := Tryz.isAgg149
 z171 := Tryz.sizeOf149
 v171 := Tryz.zeroValue149
 t173 := Tryz.underlying153
 a173 := Tryz.isAgg153
 z173 := Tryz.sizeOf153
 v173 := Tryz.zeroValue153
 t212 := Tryz.underlying187
 a212 := Tryz.isAgg187
 z212 := Tryz.sizeOf187
 v212 := Tryz.zeroValue187
 t213 := Tryz.underlying188
 a213 := Tryz.isAgg188
 z213 := Tryz.sizeOf188
 t232 := Tryz.underlying255
 a232 := Tryz.isAgg255
 z232 := Tryz.sizeOf255
 v232 := Tryz.zeroValue255
 t233 := Tryz.underlying256
 a233 := Tryz.isAgg256
 z233 := Tryz.sizeOf256
 v233 := Tryz.zeroValue256
 g17 := by kernel_rfl
 g18 := by kernel_rfl
 g19 := by kernel_rfl
 i0 := by kernel_rfl
 i2 := by kernel_rfl
 i3 := by kernel_rfl
 i4 := by kernel_rfl
 i5 := by kernel_rfl
 i9 := by kernel_rfl
 i20 := by kernel_rfl
 i37 := by kernel_rfl
 i46 := by kernel_rfl
 i51 := by kernel_rfl
 i53 := by kernel_rfl
 i171 := by kernel_rfl
 i173 := by kernel_rfl
 i212 := by kernel_rfl
 i232 := by kernel_rfl
 i233 := by kernel_rfl
 m17 := by kernel_rfl
 m18 := by kernel_rfl
 m19 := by kernel_rfl }
open Go.RowKit Go.Sort Go.Lib in
theorem Tryz.strconv_FormatInt_10 (n : Int) (h0 : -9223372036854775808 ≤ n) (h1 : n ≤ 9223372036854775807) (w : World) (htab : Lib.TabIs Tryz.prog w "internal/strconv.uint64pow10" .u64 Lib.pow10Tab) :
  Calls Tryz.prog 27 #[.int .i64 n, .int .i64 10] w fun e w' => e = .returned (.string ⟨(Lib.itoa n).toArray⟩) ∧ ∃ k os, w' = grow (w.drewN k) os := Any.strconv_FormatInt_10 Tryz.laysM173 n h0 h1 w htab
def Tryz.laysC174_ren : Go.Shelf.Ren := ⟨fun | 174 => 72 | 247 => 106 | 245 => 107 | 287 => 143 | 279 => 144 | 280 => 145 | 281 => 146 | 282 => 147 | 321 => 163 | 322 => 164 | 316 => 165 | 171 => 167 | 205 => 166 | 243 => 173 | 246 => 52 | 283 => 81 | 284 => 82 | 285 => 83 | 286 => 84 | 129 => 116 | 317 => 115 | 318 => 117 | 319 => 118 | 320 => 119 | 337 => 150 | 338 => 151 | n => n, fun | 9 => 9 | 3 => 3 | 2 => 2 | 75 => 111 | 85 => 145 | 4 => 4 | 167 => 225 | 5 => 5 | 53 => 150 | 175 => 226 | 46 => 86 | 168 => 228 | 37 => 53 | 0 => 0 | 210 => 253 | 21 => 21 | 127 => 144 | 145 => 266 | 143 => 264 | 171 => 149 | 173 => 153 | 212 => 187 | 51 => 155 | 20 => 20 | 213 => 188 | 232 => 255 | 233 => 256 | 80 => 104 | n => n, fun | 15 => 6 | 16 => 7 | 17 => 5 | 18 => 8 | 19 => 9 | n => n⟩
theorem Tryz.laysC174 : Go.Proofs.LaysC.n174 Tryz.prog Tryz.laysC174_ren := {
 mixed := by kernel_rfl
 f129 := Tryz.func116.trans (congrArg some (by kernel_rfl))
 f171 := Tryz.func167.trans (congrArg some (by kernel_rfl))
 f174 := Tryz.func72.trans (congrArg some (by kernel_rfl))
 f205 := Tryz.func166.trans (congrArg some (by kernel_rfl))
 f243 := Tryz.func173.trans (congrArg some (by kernel_rfl))
 f245 := Tryz.func107.trans (congrArg some (by kernel_rfl))
 f246 := Tryz.func52.trans (congrArg some (by kernel_rfl))
 f247 := Tryz.func106.trans (congrArg some (by kernel_rfl))
 f279 := Tryz.func144.trans (congrArg some (by kernel_rfl))
 f280 := Tryz.func145.trans (congrArg some (by kernel_rfl))
 f281 := Tryz.func146.trans (congrArg some (by kernel_rfl))
 f282 := Tryz.func147.trans (congrArg some (by kernel_rfl))
 f283 := Tryz.func81.trans (congrArg some (by kernel_rfl))
 f284 := Tryz.func82.trans (congrArg some (by kernel_rfl))
 f285 := Tryz.func83.trans (congrArg some (by kernel_rfl))
 f286 := Tryz.func84.trans (congrArg some (by kernel_rfl))
 f287 := Tryz.func143.trans (congrArg some (by kernel_rfl))
 f316 := Tryz.func165.trans (congrArg some (by kernel_rfl))
 f317 := Tryz.func115.trans (congrArg some (by kernel_rfl))
 f318 := Tryz.func117.trans (congrArg some (by kernel_rfl))
 f319 := Tryz.func118.trans (congrArg some (by kernel_rfl))
 f320 := Tryz.func119.trans (congrArg some (by kernel_rfl))
 f321 := Tryz.func163.trans (congrArg some (by kernel_rfl))
 f322 := Tryz.func164.trans (congrArg some (by kernel_rfl))
 f337 := Tryz.func150.trans (congrArg some (by kernel_rfl))
 f338 := Tryz.func151.trans (congrArg some (by kernel_rfl))
 t0 := Tryz.underlying0
 a0 := Tryz.isAgg0
 z0 := Tryz.sizeOf0
 v0 := Tryz.zeroValue0
 t2 := Tryz.underlying2
 a2 := Tryz.isAgg2
 z2 := Tryz.sizeOf2
 v2 := Tryz.zeroValue2
 t3 := Tryz.underlying3
 a3 := Tryz.isAgg3
 z3 := Tryz.sizeOf3
 v3 := Tryz.zeroValue3
 t4 := Tryz.underlying4
 a4 := Tryz.isAgg4
 z4 := Tryz.sizeOf4
 v4 := Tryz.zeroValue4
 t5 := Tryz.underlying5
 a5 := Tryz.isAgg5
 z5 := Tryz.sizeOf5
 v5 := Tryz.zeroValue5
 t9 := Tryz.underlying9
 a9 := Tryz.isAgg9
 z9 := Tryz.sizeOf9
 v9 := Tryz.zeroValue9
 t20 := Tryz.underlying20
 a20 := Tryz.isAgg20
 z20 := Tryz.sizeOf20
 v20 := Tryz.zeroValue20
 t21 := Tryz.underlying21
 a21 := Tryz.isAgg21
 z21 := Tryz.sizeOf21
 v21 := Tryz.zeroValue21
 t37 := Tryz.underlying53
 a37 := Tryz.isAgg53
 z37 := Tryz.sizeOf53
 v37 := Tryz.zeroValue53
 t46 := Tryz.underlying86
 a46 := Tryz.isAgg86
 z46 := Tryz.sizeOf86
 v46 := Tryz.zeroValue86
 t51 := Tryz.underlying155
 a51 := Tryz.isAgg155
 z51 := Tryz.sizeOf155
 v51 := Tryz.zeroValue155
 t53 := Tryz.underlying150
 a53 := Tryz.isAgg150
 z53 := Tryz.sizeOf150
 v53 := Tryz.zeroValue150
 t75 := Tryz.underlying111
 a75 := Tryz.isAgg111
 z75 := Tryz.sizeOf111
 v75 := Tryz.zeroValue111
 t85 := Tryz.underlying145
 a85 := Tryz.isAgg145
 z85 := Tryz.sizeOf145
 v85 := Tryz.zeroValue145
 t127 := Tryz.underlying144
 a127 := Tryz.isAgg144
 z127 := Tryz.sizeOf144
 v127 := Tryz.zeroValue144
 t143 := Tryz.underlying264
 a143 := Tryz.isAgg264
 z143 := Tryz.sizeOf264
 v143 := Tryz.zeroValue264
 t145 := Tryz.underlying266
 a145 := Tryz.isAgg266
 z145 := Tryz.sizeOf266
 v145 := Tryz.zeroValue266
 t167 := Tryz.underlying225
 a167 := Tryz.isAgg225
 z167 := Tryz.sizeOf225
 v167 := Tryz.zeroValue225
 t168 := Tryz.underlying228
 a168 := Tryz.isAgg228
 z168 := Tryz.sizeOf228
 v168 := Tryz.zeroValue228
 t171 := Tryz.underlying149
 a171 := Tryz.isAgg149
 z171 := Tryz.sizeOf149
 v171 := Tryz.zeroValue149
 t173 := Tryz.underlying153
 a173 := Tryz.isAgg153
 z173 := Tryz.sizeOf153
 v173 := Tryz.zeroValue153
 t175 := Tryz.underlying226
 a175 := Tryz.isAgg226
 z175 := Tryz.sizeOf226
 v175 := Tryz.zeroValue226
 t210 := Tryz.underlying253
 a210 := Tryz.isAgg253
 z210 := Tryz.sizeOf253
 v210 := Tryz.zeroValue253
 t212 := Tryz.underlying187
 a212 := Tryz.isAgg187
 z212 := Tryz.sizeOf187
 v212 := Tryz.zeroValue187
 t213 := Tryz.underlying188
 a213 := Tryz.isAgg188
 z213 := Tryz.sizeOf188
 t232 := Tryz.underlying255
 a232 := Tryz.isAgg255
 z232 := Tryz.sizeOf255
 v232 := Tryz.zeroValue255
 t233 := Tryz.underlying256
 a233 := Tryz.isAgg256
 z233 := Tryz.sizeOf256
 v233 := Tryz.zeroValue256
 g15 := by kernel_rfl
 g16 := by kernel_rfl
 g17 := by kernel_rfl
 g18 := by kernel_rfl
 g19 := by kernel_rfl
 t80 := Tryz.underlying104
 a80 := Tryz.isAgg104
 z80 := Tryz.sizeOf104
 v80 := Tryz.zeroValue104
 i0 := by kernel_rfl
 i2 := by kernel_rfl
 i3 := by kernel_rfl
 i4 := by kernel_rfl
 i5 := by kernel_rfl
 i9 := by kernel_rfl
 i20 := by kernel_rfl
 i21 := by kernel_rfl
 i37 := by kernel_rfl
 i46 := by kernel_rfl
 i51 := by kernel_rfl
 i53 := by kernel_rfl
 i75 := by kernel_rfl
 i80 := by kernel_rfl
 i85 := by kernel_rfl
 i127 := by kernel_rfl
 i143 := by kernel_rfl
 i145 := by kernel_rfl
 i167 := by kernel_rfl
 i168 := by kernel_rfl
 i171 := by kernel_rfl
 i173 := by kernel_rfl
 i175 := by kernel_rfl
 i210 := by kernel_rfl
 i212 := by kernel_rfl
 i232 := by kernel_rfl
 i233 := by kernel_rfl
 m15 := by kernel_rfl
 m16 := by kernel_rfl
 m17 := by kernel_rfl
 m18 := by kernel_rfl
 m19 := by kernel_rfl
 c0 := by kernel_rfl
 c2 := by kernel_rfl
 c3 := by kernel_rfl
 c4 := by kernel_rfl
 c5 := by kernel_rfl
 c9 := by kernel_rfl
 c20 := by kernel_rfl
 c21 := by kernel_rfl
 c37 := by kernel_rfl
 c46 := by kernel_rfl
 c51 := by kernel_rfl
 c53 := by kernel_rfl
 c75 := by kernel_rfl
 c80 := by kernel_rfl
 c85 := by kernel_rfl
 c127 := by kernel_rfl
 c143 := by kernel_rfl
 c145 := by kernel_rfl
 c167 := by kernel_rfl
 c168 := by kernel_rfl
 c171 := by kernel_rfl
 c173 := by kernel_rfl
 c175 := by kernel_rfl
 c210 := by kernel_rfl
 c212 := by kernel_rfl
 c213 := by kernel_rfl
 c232 := by kernel_rfl
 c233 := by kernel_rfl }
open Go.RowKit in
theorem Tryz.strconv_ParseInt_10_at64_ok (s : ByteArray) (hmax : s.size ≤ 9223372036854775806) (v : Int) (h : Lib.parseIntB 64 s.data.toList = .ok v) (w : World) :
  Calls Tryz.prog 72 #[.string s, .int .i64 10, .int .i64 64] w fun e w' => e = .returned (.tuple #[.int .i64 v, .nilIface]) ∧ (w' = w ∨ ∃ t, w' = Lib.bytesWorld w 5 t) := Any.strconv_ParseInt_10_at64_ok Tryz.laysC174 s hmax v h w
open Go.RowKit in
theorem Tryz.strconv_ParseInt_10_at64_range (s : ByteArray) (hlim : s.size ≤ 281474976710656) (h : Lib.parseIntB 64 s.data.toList = .range) (ev : Value) (w : World) (hv : w.cell? ⟨7, 0, none⟩ = some ev) (hev : ev = .nilIface ∨ ∃ te pe, ev = .iface te pe) :
  Calls Tryz.prog 72 #[.string s, .int .i64 10, .int .i64 64] w fun e w' => ∃ N, e = .returned (.tuple #[.int .i64 (Lib.intSat 64 s.data.toList), .iface 228 (.pointer (some ⟨N, 0, none⟩))]) ∧ w.heap.size ≤ N ∧ w'.heap[N]? = some (.cells #[.string ⟨#[80, 97, 114, 115, 101, 73, 110, 116]⟩, .string s, ev] 253 (0, 0)) ∧ Below w.heap.size w w' := Any.strconv_ParseInt_10_at64_range Tryz.laysC174 s hlim h ev w hv hev
def Tryz.lays144_ren : Go.Shelf.Ren := ⟨fun | 144 => 29 | 143 => 49 | 219 => 79 | 217 => 109 | 225 => 112 | 224 => 113 | 267 => 114 | 266 => 148 | 314 => 149 | n => n, fun | 9 => 9 | 4 => 4 | 3 => 3 | 5 => 5 | 46 => 86 | 146 => 231 | 51 => 155 | n => n, fun | 1 => 2 | n => n⟩
theorem Tryz.lays144 : Go.Proofs.Lays.n144 Tryz.prog Tryz.lays144_ren := {
 mixed := by kernel_rfl
 f143 := Tryz.func49.trans (congrArg some (by kernel_rfl))
 f144 := Tryz.func29.trans (congrArg some (by kernel_rfl))
 f217 := Tryz.func109.trans (congrArg some (by kernel_rfl))
 f219 := Tryz.func79.trans (congrArg some (by kernel_rfl))
 f224 := Tryz.func113.trans (congrArg some (by kernel_rfl))
 f225 := Tryz.func112.trans (congrArg some (by kernel_rfl))
 f266 := Tryz.func148.trans (congrArg some (by kernel_rfl))
 f267 := Tryz.func114.trans (congrArg some (by kernel_rfl))
 f314 := Tryz.func149.trans (congrArg some (by kernel_rfl))
 t3 := Tryz.underlying3
 a3 := Tryz.isAgg3
 z3 := Tryz.sizeOf3
 v3 := Tryz.zeroValue3
 t4 := Tryz.underlying4
 a4 := Tryz.isAgg4
 z4 := Tryz.sizeOf4
 v4 := Tryz.zeroValue4
 t5 := Tryz.underlying5
 a5 := Tryz.isAgg5
 z5 := Tryz.sizeOf5
 v5 := Tryz.zeroValue5
 t9 := Tryz.underlying9
 a9 := Tryz.isAgg9
 z9 := Tryz.sizeOf9
 v9 := Tryz.zeroValue9
 t46 := Tryz.underlying86
 a46 := Tryz.isAgg86
 z46 := Tryz.sizeOf86
 v46 := Tryz.zeroValue86
 t51 := Tryz.underlying155
 a51 := Tryz.isAgg155
 z51 := Tryz.sizeOf155
 v51 := Tryz.zeroValue155
 t146 := Tryz.underlying231
 a146 := Tryz.isAgg231
 z146 := Tryz.sizeOf231
 v146 := Tryz.zeroValue231
 g1 := by kernel_rfl }
open Go.RowKit Go.Lib in
theorem Tryz.strings_Contains_one (s : ByteArray) (c : UInt8) (w : World) :
  Calls Tryz.prog 29 #[.string s, .string ⟨#[c]⟩] w fun e w' => e = .returned (.bool (decide (0 ≤ Lib.indexByte s.data.toList c))) ∧ w' = w := Any.strings_Contains_one Tryz.lays144 s c w
def Tryz.lays99_ren : Go.Shelf.Ren := ⟨fun | 99 => 73 | 206 => 108 | n => n, fun | 9 => 9 | 4 => 4 | 3 => 3 | n => n, fun | n => n⟩
theorem Tryz.lays99 : Go.Proofs.Lays.n99 Tryz.prog Tryz.lays99_ren := {
 mixed := by kernel_rfl
 f99 := Tryz.func73.trans (congrArg some (by kernel_rfl))
 f206 := Tryz.func108.trans (congrArg some (by kernel_rfl))
 t3 := Tryz.underlying3
 a3 := Tryz.isAgg3
 z3 := Tryz.sizeOf3
 v3 := Tryz.zeroValue3
 t4 := Tryz.underlying4
 a4 := Tryz.isAgg4
 z4 := Tryz.sizeOf4
 v4 := Tryz.zeroValue4
 t9 := Tryz.underlying9
 a9 := Tryz.isAgg9
 z9 := Tryz.sizeOf9
 v9 := Tryz.zeroValue9 }
open Go.RowKit Go.Lib in
theorem Tryz.strings_HasPrefix (s p : ByteArray) (w : World) :
  Calls Tryz.prog 73 #[.string s, .string p] w fun e w' => e = .returned (.bool (Lib.hasPrefix s.data.toList p.data.toList)) ∧ w' = w := Any.strings_HasPrefix Tryz.lays99 s p w
def Tryz.lays157_ren : Go.Shelf.Ren := ⟨fun | 157 => 67 | 229 => 102 | 199 => 54 | 261 => 86 | 311 => 121 | 312 => 122 | n => n, fun | 9 => 9 | 31 => 85 | 3 => 3 | 5 => 5 | 4 => 4 | 119 => 118 | 0 => 0 | 40 => 117 | 152 => 221 | 21 => 21 | 154 => 223 | 51 => 155 | 141 => 157 | 196 => 194 | 193 => 191 | 198 => 197 | 49 => 195 | 194 => 192 | 201 => 200 | 226 => 234 | 46 => 86 | 227 => 235 | n => n, fun | 0 => 0 | 6 => 1 | n => n⟩
theorem Tryz.lays157 : Go.Proofs.Lays.n157 Tryz.prog Tryz.lays157_ren := {
 mixed := by kernel_rfl
 f157 := Tryz.func67.trans (congrArg some (by kernel_rfl))
 f199 := Tryz.func54.trans (congrArg some (by kernel_rfl))
 f229 := Tryz.func102.trans (congrArg some (by kernel_rfl))
 f261 := Tryz.func86.trans (congrArg some (by kernel_rfl))
 f311 := Tryz.func121.trans (congrArg some (by kernel_rfl))
 f312 := Tryz.func122.trans (congrArg some (by kernel_rfl))
 t0 := Tryz.underlying0
 a0 := Tryz.isAgg0
 z0 := Tryz.sizeOf0
 v0 := Tryz.zeroValue0
 t3 := Tryz.underlying3
 a3 := Tryz.isAgg3
 z3 := Tryz.sizeOf3
 v3 := Tryz.zeroValue3
 t4 := Tryz.underlying4
 a4 := Tryz.isAgg4
 z4 := Tryz.sizeOf4
 v4 := Tryz.zeroValue4
 t5 := Tryz.underlying5
 a5 := Tryz.isAgg5
 z5 := Tryz.sizeOf5
 v5 := Tryz.zeroValue5
 t9 := Tryz.underlying9
 a9 := Tryz.isAgg9
 z9 := Tryz.sizeOf9
 v9 := Tryz.zeroValue9
 t21 := Tryz.underlying21
 a21 := Tryz.isAgg21
 z21 := Tryz.sizeOf21
 v21 := Tryz.zeroValue21
 t31 := Tryz.underlying85
 a31 := Tryz.isAgg85
 z31 := Tryz.sizeOf85
 v31 := Tryz.zeroValue85
 t40 := Tryz.underlying117
 a40 := Tryz.isAgg117
 z40 := Tryz.sizeOf117
 v40 := Tryz.zeroValue117
 t46 := Tryz.underlying86
 a46 := Tryz.isAgg86
 z46 := Tryz.sizeOf86
 v46 := Tryz.zeroValue86
 t49 := Tryz.underlying195
 a49 := Tryz.isAgg195
 z49 := Tryz.sizeOf195
 v49 := Tryz.zeroValue195
 t51 := Tryz.underlying155
 a51 := Tryz.isAgg155
 z51 := Tryz.sizeOf155
 v51 := Tryz.zeroValue155
 t119 := Tryz.underlying118
 a119 := Tryz.isAgg118
 z119 := Tryz.sizeOf118
 t141 := Tryz.underlying157
 a141 := Tryz.isAgg157
 z141 := Tryz.sizeOf157
 v141 := Tryz.zeroValue157
 t152 := Tryz.underlying221
 a152 := Tryz.isAgg221
 z152 := Tryz.sizeOf221
 v152 := Tryz.zeroValue221
 t154 := Tryz.underlying223
 a154 := Tryz.isAgg223
 z154 := Tryz.sizeOf223
 v154 := Tryz.zeroValue223
 t193 := Tryz.underlying191
 a193 := Tryz.isAgg191
 z193 := Tryz.sizeOf191
 v193 := Tryz.zeroValue191
 t194 := Tryz.underlying192
 a194 := Tryz.isAgg192
 z194 := Tryz.sizeOf192
 v194 := Tryz.zeroValue192
 t196 := Tryz.underlying194
 a196 := Tryz.isAgg194
 z196 := Tryz.sizeOf194
 v196 := Tryz.zeroValue194
 t198 := Tryz.underlying197
 a198 := Tryz.isAgg197
 z198 := Tryz.sizeOf197
 v198 := Tryz.zeroValue197
 t201 := Tryz.underlying200
 a201 := Tryz.isAgg200
 z201 := Tryz.sizeOf200
 v201 := Tryz.zeroValue200
 t226 := Tryz.underlying234
 a226 := Tryz.isAgg234
 z226 := Tryz.sizeOf234
 v226 := Tryz.zeroValue234
 t227 := Tryz.underlying235
 a227 := Tryz.isAgg235
 z227 := Tryz.sizeOf235
 v227 := Tryz.zeroValue235
 g0 := by kernel_rfl
 g6 := by kernel_rfl }
open Go.RowKit Go.Lib in
theorem Tryz.strings_Fields (s : ByteArray) (w : World) (hs : s.size < 4294967281) (hascii : ∀ (j : Nat) b, s.data.toList[j]? = some b → b.toNat < 128) (htab : Lib.TabIs Tryz.prog w "strings.asciiSpace" .u8 Lib.asciiSpaceTab) :
  Calls Tryz.prog 67 #[.string s] w fun e w' =>
   e = .returned (.slice (some ⟨w.heap.size, 0, none⟩) (Lib.fields s.data.toList).length (Lib.fields s.data.toList).length) ∧ w' = w.alloc (.cells ((Lib.fields s.data.toList).map fun l => Value.string ⟨l.toArray⟩).toArray 9) := Any.strings_Fields Tryz.lays157 (by kernel_rfl) (by kernel_rfl) s w hs hascii htab
def Tryz.lays154_ren : Go.Shelf.Ren := ⟨fun | 154 => 26 | 138 => 47 | 165 => 48 | 143 => 49 | 166 => 50 | 197 => 51 | 169 => 41 | 195 => 75 | 218 => 76 | 240 => 77 | 241 => 78 | 219 => 79 | 260 => 80 | 276 => 110 | 277 => 111 | 217 => 109 | 225 => 112 | 224 => 113 | 267 => 114 | 266 => 148 | 314 => 149 | n => n, fun | 9 => 9 | 3 => 3 | 4 => 4 | 72 => 100 | 0 => 0 | 76 => 112 | 105 => 114 | 21 => 21 | 5 => 5 | 70 => 98 | 20 => 20 | 37 => 53 | 75 => 111 | 127 => 144 | 164 => 179 | 46 => 86 | 119 => 118 | 139 => 185 | 138 => 184 | 146 => 231 | 51 => 155 | 80 => 104 | n => n, fun | 1 => 2 | 3 => 3 | 4 => 4 | n => n⟩
theorem Tryz.lays154 : Go.Proofs.Lays.n154 Tryz.prog Tryz.lays154_ren := {
 mixed := by kernel_rfl
 f138 := Tryz.func47.trans (congrArg some (by kernel_rfl))
 f143 := Tryz.func49.trans (congrArg some (by kernel_rfl))
 f154 := Tryz.func26.trans (congrArg some (by kernel_rfl))
 f165 := Tryz.func48.trans (congrArg some (by kernel_rfl))
 f166 := Tryz.func50.trans (congrArg some (by kernel_rfl))
 f169 := Tryz.func41.trans (congrArg some (by kernel_rfl))
 f195 := Tryz.func75.trans (congrArg some (by kernel_rfl))
 f197 := Tryz.func51.trans (congrArg some (by kernel_rfl))
 f217 := Tryz.func109.trans (congrArg some (by kernel_rfl))
 f218 := Tryz.func76.trans (congrArg some (by kernel_rfl))
 f219 := Tryz.func79.trans (congrArg some (by kernel_rfl))
 f224 := Tryz.func113.trans (congrArg some (by kernel_rfl))
 f225 := Tryz.func112.trans (congrArg some (by kernel_rfl))
 f240 := Tryz.func77.trans (congrArg some (by kernel_rfl))
 f241 := Tryz.func78.trans (congrArg some (by kernel_rfl))
 f260 := Tryz.func80.trans (congrArg some (by kernel_rfl))
 f266 := Tryz.func148.trans (congrArg some (by kernel_rfl))
 f267 := Tryz.func114.trans (congrArg some (by kernel_rfl))
 f276 := Tryz.func110.trans (congrArg some (by kernel_rfl))
 f277 := Tryz.func111.trans (congrArg some (by kernel_rfl))
 f314 := Tryz.func149.trans (congrArg some (by kernel_rfl))
 t0 := Tryz.underlying0
 a0 := Tryz.isAgg0
 z0 := Tryz.sizeOf0
 v0 := Tryz.zeroValue0
 t3 := Tryz.underlying3
 a3 := Tryz.isAgg3
 z3 := Tryz.sizeOf3
 v3 := Tryz.zeroValue3
 t4 := Tryz.underlying4
 a4 := Tryz.isAgg4
 z4 := Tryz.sizeOf4
 v4 := Tryz.zeroValue4
 t5 := Tryz.underlying5
 a5 := Tryz.isAgg5
 z5 := Tryz.sizeOf5
 v5 := Tryz.zeroValue5
 t9 := Tryz.underlying9
 a9 := Tryz.isAgg9
 z9 := Tryz.sizeOf9
 v9 := Tryz.zeroValue9
 t20 := Tryz.underlying20
 a20 := Tryz.isAgg20
 z20 := Tryz.sizeOf20
 v20 := Tryz.zeroValue20
 t21 := Tryz.underlying21
 a21 := Tryz.isAgg21
 z21 := Tryz.sizeOf21
 v21 := Tryz.zeroValue21
 t37 := Tryz.underlying53
 a37 := Tryz.isAgg53
 z37 := Tryz.sizeOf53
 v37 := Tryz.zeroValue53
 t46 := Tryz.underlying86
 a46 := Tryz.isAgg86
 z46 := Tryz.sizeOf86
 v46 := Tryz.zeroValue86
 t51 := Tryz.underlying155
 a51 := Tryz.isAgg155
 z51 := Tryz.sizeOf155
 v51 := Tryz.zeroValue155
 t70 := Tryz.underlying98
 a70 := Tryz.isAgg98
 z70 := Tryz.sizeOf98
 v70 := Tryz.zeroValue98
 t72 := Tryz.underlying100
 a72 := Tryz.isAgg100
 z72 := Tryz.sizeOf100
 v72 := Tryz.zeroValue100
 t75 := Tryz.underlying111
 a75 := Tryz.isAgg111
 z75 := Tryz.sizeOf111
 v75 := Tryz.zeroValue111
 t76 := Tryz.underlying112
 a76 := Tryz.isAgg112
 z76 := Tryz.sizeOf112
 v76 := Tryz.zeroValue112
 t105 := Tryz.underlying114
 a105 := Tryz.isAgg114
 z105 := Tryz.sizeOf114
 v105 := Tryz.zeroValue114
 t119 := Tryz.underlying118
 a119 := Tryz.isAgg118
 z119 := Tryz.sizeOf118
 t127 := Tryz.underlying144
 a127 := Tryz.isAgg144
 z127 := Tryz.sizeOf144
 v127 := Tryz.zeroValue144
 t138 := Tryz.underlying184
 a138 := Tryz.isAgg184
 z138 := Tryz.sizeOf184
 v138 := Tryz.zeroValue184
 t139 := Tryz.underlying185
 a139 := Tryz.isAgg185
 z139 := Tryz.sizeOf185
 v139 := Tryz.zeroValue185
 t146 := Tryz.underlying231
 a146 := Tryz.isAgg231
 z146 := Tryz.sizeOf231
 v146 := Tryz.zeroValue231
 t164 := Tryz.underlying179
 a164 := Tryz.isAgg179
 z164 := Tryz.sizeOf179
 v164 := Tryz.zeroValue179
 g1 := by kernel_rfl
 g3 := by kernel_rfl
 g4 := by kernel_rfl }
theorem Tryz.Builder_Extra_154 : Builder.Extra Tryz.prog Tryz.lays154_ren := {
 sizeBuilder := by kernel_rfl
 liesBuilder := by kernel_rfl
 t5 := Tryz.underlying5
 a5 := Tryz.isAgg5
 z5 := Tryz.sizeOf5
 v5 := Tryz.zeroValue5
 infoByte := by kernel_rfl
 cellsByte := by kernel_rfl
 sizeByte := by kernel_rfl
 neB5 := by decide }
open Go.RowKit Go.Lib in
theorem Tryz.strings_Replace (s old new : ByteArray) (n : Int) (m : Int) (w : World) (hs : s.size < 4294967281) (hm : w.cell? ⟨2, 0, none⟩ = some (.int .i64 m)) (h1 : 1 ≤ old.size) (hlen : s.size + Lib.countB s old * new.size ≤ 140737488355328) :
  Calls Tryz.prog 26 #[.string s, .string old, .string new, .int .i64 n] w fun e w' =>
   e = .returned (.string ⟨(Lib.replace s.data.toList old.data.toList new.data.toList n).toArray⟩) ∧ Below w.heap.size w w' := Any.strings_Replace Tryz.lays154 Tryz.Builder_Extra_154 s old new n m w hs hm h1 hlen
def Tryz.lays109_ren : Go.Shelf.Ren := ⟨fun | 109 => 91 | n => n, fun | 31 => 85 | 9 => 9 | 3 => 3 | 0 => 0 | 4 => 4 | n => n, fun | n => n⟩
theorem Tryz.lays109 : Go.Proofs.Lays.n109 Tryz.prog Tryz.lays109_ren := {
 mixed := by kernel_rfl
 f109 := Tryz.func91.trans (congrArg some (by kernel_rfl))
 t0 := Tryz.underlying0
 a0 := Tryz.isAgg0
 z0 := Tryz.sizeOf0
 v0 := Tryz.zeroValue0
 t3 := Tryz.underlying3
 a3 := Tryz.isAgg3
 z3 := Tryz.sizeOf3
 v3 := Tryz.zeroValue3
 t4 := Tryz.underlying4
 a4 := Tryz.isAgg4
 z4 := Tryz.sizeOf4
 v4 := Tryz.zeroValue4
 t9 := Tryz.underlying9
 a9 := Tryz.isAgg9
 z9 := Tryz.sizeOf9
 v9 := Tryz.zeroValue9
 t31 := Tryz.underlying85
 a31 := Tryz.isAgg85
 z31 := Tryz.sizeOf85
 v31 := Tryz.zeroValue85 }
open Go.Lib in
theorem Tryz.slices_Index_string_empty (a : Option Addr) (c : Nat) (x : ByteArray) (w : World) :
  Calls Tryz.prog 91 #[.slice a 0 c, .string x] w fun e w' => e = .returned (.int .i64 (Lib.idxOfS [] x)) ∧ w' = w := Any.slices_Index_string_empty Tryz.lays109 a c x w
end Go.Proofs.YtokghjnkfabgiaaGreatDoor
