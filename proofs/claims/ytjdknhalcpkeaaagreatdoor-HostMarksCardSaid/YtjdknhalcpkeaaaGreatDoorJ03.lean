/- The shelf's contracts that this seat's proofs use, laid at its dump by the kit's own lay-shelf.mjs and lay-plain.mjs, pruned by a program. -/
import Derived.Shelf.Strings.Builder1
import Derived.Shelf.Strings.Builder2
import Derived.Shelf.Strings.OnBuilder
import Derived.Shelf.Strings.Trim
import Derived.Shelf.Small.Utf8
import Derived.Shelf.Small.Bits
import Derived.Shelf.Small.Strs
import Derived.Shelf.Small.Wraps
import Derived.Shelf.Strings.BuilderF
import Derived.Shelf.Strings.BuilderK
import Derived.Shelf.Utf8.RuneCount
import Derived.Shelf.Strings.Builder2Cap
import Derived.Shelf.Strconv.Atoi
import Derived.Shelf.Strconv.Itoa0
import Derived.Shelf.Strconv.Itoa1
import Derived.Shelf.LaysM
import Derived.Shelf.Strconv.Itoa2
import Derived.Shelf.Strconv.Itoa3
import Derived.Shelf.Strconv.AtoiErrFast
import Derived.Shelf.Strconv.ParseIntEmpty
import Derived.Shelf.Strconv.AtoiFail
import Derived.Shelf.Strconv.Clone
import Derived.Shelf.Strconv.SyntaxError
import Derived.Shelf.LaysC
import Derived.Shelf.Strconv.ToError
import Derived.Shelf.Strconv.AtoiErr
import Derived.Shelf.Strconv.ErrVar
import Derived.Shelf.Strconv.Lower
import Derived.Shelf.Strconv.ParseUint10
import Derived.Shelf.Strconv.ParseUint10Empty
import Derived.Shelf.Strconv.ParseUint10Any
import Derived.Shelf.Strconv.ParseInt10
import Derived.Shelf.Strconv.AtoiLong
import Derived.Shelf.Strconv.AtoiInnerAll
import Derived.Shelf.Strconv.RangeError
import Derived.Shelf.Strconv.ToErrorRange
import Derived.Shelf.Strconv.AtoiAll
import Derived.Shelf.Strconv.ErrVarAll
import Derived.Shelf.Strconv.ParseUintEmpty
import Derived.Shelf.Strconv.ParseUint10b64
import Derived.Shelf.Strconv.ParseUint10b32
import Derived.Shelf.Strconv.ParseUint10b16
import Derived.Shelf.Strconv.ParseUint10b8
import Derived.Shelf.Strconv.ParseUint10At
import Derived.Shelf.Strconv.ParseInt10At64
import Derived.Shelf.Strconv.ParseInt10At32
import Derived.Shelf.Strconv.ParseInt10At16
import Derived.Shelf.Strconv.ParseInt10At8
import Derived.Shelf.Strconv.ParseInt10All
import Derived.Ground.MpProg
import Derived.Shelf.Pu.ParseUintPublic10
import Derived.Shelf.Pu.ErrVarParseUint
import Derived.Shelf.Strings.Search1
import Derived.Shelf.Strings.Search2
import Derived.Shelf.Strings.Search3
import Derived.Shelf.Strings.Cut
import Derived.Shelf.Strings.Count
import Derived.Shelf.Strings.Shaped
import Derived.Shelf.Strings.Prefix
import Derived.Shelf.Strings.Split
import Derived.Shelf.Strings.Replace
import Derived.Shelf.Strings.SplitShaped
import Derived.Shelf.Strings.Runes
import Derived.Shelf.Strings.RuneCount
import Derived.Shelf.Strings.AsciiSet
import Derived.Shelf.Bits.Mul64
import Derived.Shelf.Strings.Repeat
import Derived.Shelf.Unicode.DecodeSlow
import Derived.Shelf.Strings.BuilderCap
import Derived.Shelf.Slices.Turned
import Derived.Ground.Names2Prog
import Derived.Shelf.Slices.ReverseS
import Derived.Shelf.Slices.Clone
import Derived.Shelf.Slices.SearchI
import Derived.Shelf.Slices.Cells
import Derived.Test.YtjdknhalcpkeaaaGreatDoorProg
namespace Go.Proofs
open Go.Shelf
def Tryz.lays156_ren : Go.Shelf.Ren := ⟨fun | 156 => 66 | 165 => 104 | 166 => 105 | 169 => 106 | 240 => 144 | 241 => 145 | 276 => 173 | 277 => 174 | n => n, fun | 31 => 42 | 9 => 9 | 3 => 3 | 4 => 4 | 0 => 0 | 20 => 20 | 72 => 146 | 76 => 150 | 70 => 143 | 37 => 144 | 75 => 149 | 127 => 180 | 164 => 205 | 5 => 5 | 80 => 152 | n => n, fun | n => n⟩
theorem Tryz.lays156 : Go.Proofs.Lays.n156 Tryz.prog Tryz.lays156_ren := {
 mixed := by kernel_rfl
 f156 := Tryz.func66.trans (congrArg some (by kernel_rfl))
 f165 := Tryz.func104.trans (congrArg some (by kernel_rfl))
 f166 := Tryz.func105.trans (congrArg some (by kernel_rfl))
 f169 := Tryz.func106.trans (congrArg some (by kernel_rfl))
 f240 := Tryz.func144.trans (congrArg some (by kernel_rfl))
 f241 := Tryz.func145.trans (congrArg some (by kernel_rfl))
 f276 := Tryz.func173.trans (congrArg some (by kernel_rfl))
 f277 := Tryz.func174.trans (congrArg some (by kernel_rfl))
 t0 := Tryz.underlying0
 a0 := Tryz.isAgg0
 z0 := Tryz.sizeOf0
 v0 := Tryz.zeroValue0
 t3 := Tryz.underlying3
 a3 := Tryz.isAgg3
 z3 := Tryz.sizeOf3
 v3 := Tryz.zeroValue3
 t4 := Tryz.underlying4
 a4 := Tryz.isAgg4
 z4 := Tryz.sizeOf4
 v4 := Tryz.zeroValue4
 t9 := Tryz.underlying9
 a9 := Tryz.isAgg9
 z9 := Tryz.sizeOf9
 v9 := Tryz.zeroValue9
 t20 := Tryz.underlying20
 a20 := Tryz.isAgg20
 z20 := Tryz.sizeOf20
 v20 := Tryz.zeroValue20
 t31 := Tryz.underlying42
 a31 := Tryz.isAgg42
 z31 := Tryz.sizeOf42
 v31 := Tryz.zeroValue42
 t37 := Tryz.underlying144
 a37 := Tryz.isAgg144
 z37 := Tryz.sizeOf144
 v37 := Tryz.zeroValue144
 t70 := Tryz.underlying143
 a70 := Tryz.isAgg143
 z70 := Tryz.sizeOf143
 v70 := Tryz.zeroValue143
 t72 := Tryz.underlying146
 a72 := Tryz.isAgg146
 z72 := Tryz.sizeOf146
 v72 := Tryz.zeroValue146
 t75 := Tryz.underlying149
 a75 := Tryz.isAgg149
 z75 := Tryz.sizeOf149
 v75 := Tryz.zeroValue149
 t76 := Tryz.underlying150
 a76 := Tryz.isAgg150
 z76 := Tryz.sizeOf150
 v76 := Tryz.zeroValue150
 t127 := Tryz.underlying180
 a127 := Tryz.isAgg180
 z127 := Tryz.sizeOf180
 v127 := Tryz.zeroValue180
 t164 := Tryz.underlying205
 a164 := Tryz.isAgg205
 z164 := Tryz.sizeOf205
 v164 := Tryz.zeroValue205 }
theorem Tryz.Builder_Extra_156 : Builder.Extra Tryz.prog Tryz.lays156_ren := {
 sizeBuilder := by kernel_rfl
 liesBuilder := by kernel_rfl
 t5 := Tryz.underlying5
 a5 := Tryz.isAgg5
 z5 := Tryz.sizeOf5
 v5 := Tryz.zeroValue5
 infoByte := by kernel_rfl
 cellsByte := by kernel_rfl
 sizeByte := by kernel_rfl
 neB5 := by decide }
open Go.RowKit in
theorem Tryz.strings_Join_none (a : Option Addr) (c : Nat) (sep : ByteArray) (w : World) :
 Calls Tryz.prog 66 #[.slice a 0 c, .string sep] w fun e w' => e = .returned (.string ⟨#[]⟩) ∧ w' = w := Any.strings_Join_none Tryz.lays156 Tryz.Builder_Extra_156 a c sep w
open Go.RowKit in
theorem Tryz.strings_Join (bk o c : Nat) (xs : List ByteArray) (sep : ByteArray) (w : World) (hcells : ∀ (j : Nat) x, xs[j]? = some x → w.cell? ⟨bk, o + j, none⟩ = some (.string x)) (hbk : bk < w.heap.size) (hN : xs.length ≤ 140737488355328) (hcap : xs.length ≤ c) (hlen : (Lib.join (xs.map (·.data.toList)) sep.data.toList).length ≤ 140737488355328) :
 Calls Tryz.prog 66 #[.slice (some ⟨bk, o, none⟩) xs.length c, .string sep] w fun e w' => e = .returned (.string ⟨(Lib.join (xs.map (·.data.toList)) sep.data.toList).toArray⟩) ∧ Below w.heap.size w w' := Any.strings_Join Tryz.lays156 Tryz.Builder_Extra_156 bk o c xs sep w hcells hbk hN hcap hlen
def Tryz.lays162_ren : Go.Shelf.Ren := ⟨fun | 162 => 87 | 232 => 131 | 227 => 132 | 234 => 133 | 236 => 134 | 228 => 166 | 271 => 167 | 151 => 168 | 120 => 190 | 197 => 188 | 152 => 191 | 260 => 204 | 137 => 159 | 119 => 205 | 224 => 202 | 225 => 201 | 217 => 182 | 266 => 200 | n => n, fun | 9 => 9 | 4 => 4 | 3 => 3 | 5 => 5 | 117 => 173 | 116 => 172 | 0 => 0 | 124 => 176 | 21 => 21 | 105 => 199 | 46 => 119 | 119 => 233 | 139 => 236 | 138 => 235 | n => n, fun | 3 => 2 | 4 => 3 | n => n⟩
theorem Tryz.lays162 : Go.Proofs.Lays.n162 Tryz.prog Tryz.lays162_ren := {
 mixed := by kernel_rfl
 f119 := Tryz.func205.trans (congrArg some (by kernel_rfl))
 f120 := Tryz.func190.trans (congrArg some (by kernel_rfl))
 f137 := Tryz.func159.trans (congrArg some (by kernel_rfl))
 f151 := Tryz.func168.trans (congrArg some (by kernel_rfl))
 f152 := Tryz.func191.trans (congrArg some (by kernel_rfl))
 f162 := Tryz.func87.trans (congrArg some (by kernel_rfl))
 f197 := Tryz.func188.trans (congrArg some (by kernel_rfl))
 f217 := Tryz.func182.trans (congrArg some (by kernel_rfl))
 f224 := Tryz.func202.trans (congrArg some (by kernel_rfl))
 f225 := Tryz.func201.trans (congrArg some (by kernel_rfl))
 f227 := Tryz.func132.trans (congrArg some (by kernel_rfl))
 f228 := Tryz.func166.trans (congrArg some (by kernel_rfl))
 f232 := Tryz.func131.trans (congrArg some (by kernel_rfl))
 f234 := Tryz.func133.trans (congrArg some (by kernel_rfl))
 f236 := Tryz.func134.trans (congrArg some (by kernel_rfl))
 f260 := Tryz.func204.trans (congrArg some (by kernel_rfl))
 f266 := Tryz.func200.trans (congrArg some (by kernel_rfl))
 f271 := Tryz.func167.trans (congrArg some (by kernel_rfl))
 t0 := Tryz.underlying0
 a0 := Tryz.isAgg0
 z0 := Tryz.sizeOf0
 v0 := Tryz.zeroValue0
 t3 := Tryz.underlying3
 a3 := Tryz.isAgg3
 z3 := Tryz.sizeOf3
 v3 := Tryz.zeroValue3
 t4 := Tryz.underlying4
 a4 := Tryz.isAgg4
 z4 := Tryz.sizeOf4
 v4 := Tryz.zeroValue4
 t5 := Tryz.underlying5
 a5 := Tryz.isAgg5
 z5 := Tryz.sizeOf5
 v5 := Tryz.zeroValue5
 t9 := Tryz.underlying9
 a9 := Tryz.isAgg9
 z9 := Tryz.sizeOf9
 v9 := Tryz.zeroValue9
 t21 := Tryz.underlying21
 a21 := Tryz.isAgg21
 z21 := Tryz.sizeOf21
 v21 := Tryz.zeroValue21
 t46 := Tryz.underlying119
 a46 := Tryz.isAgg119
 z46 := Tryz.sizeOf119
 v46 := Tryz.zeroValue119
 t105 := Tryz.underlying199
 a105 := Tryz.isAgg199
 z105 := Tryz.sizeOf199
 v105 := Tryz.zeroValue199
 t116 := Tryz.underlying172
 a116 := Tryz.isAgg172
 z116 := Tryz.sizeOf172
 t117 := Tryz.underlying173
 a117 := Tryz.isAgg173
 z117 := Tryz.sizeOf173
 v117 := Tryz.zeroValue173
 t119 := Tryz.underlying233
 a119 := Tryz.isAgg233
 z119 := Tryz.sizeOf233
 t124 := Tryz.underlying176
 a124 := Tryz.isAgg176
 z124 := Tryz.sizeOf176
 v124 := Tryz.zeroValue176
 t138 := Tryz.underlying235
 a138 := Tryz.isAgg235
 z138 := Tryz.sizeOf235
 v138 := Tryz.zeroValue235
 t139 := Tryz.underlying236
 a139 := Tryz.isAgg236
 z139 := Tryz.sizeOf236
 v139 := Tryz.zeroValue236
 g3 := by kernel_rfl
 g4 := by kernel_rfl }
def Tryz.lays160_ren : Go.Shelf.Ren := ⟨fun | 160 => 206 | 232 => 131 | 231 => 218 | 227 => 132 | 234 => 133 | 233 => 219 | 236 => 134 | 235 => 220 | 228 => 166 | 271 => 167 | 151 => 168 | 197 => 188 | 120 => 190 | 152 => 191 | 260 => 204 | 137 => 159 | 119 => 205 | 224 => 202 | 225 => 201 | 217 => 182 | 266 => 200 | n => n, fun | 9 => 9 | 4 => 4 | 3 => 3 | 5 => 5 | 117 => 173 | 116 => 172 | 0 => 0 | 124 => 176 | 21 => 21 | 105 => 199 | 46 => 119 | 119 => 233 | 139 => 236 | 138 => 235 | n => n, fun | 3 => 2 | 4 => 3 | n => n⟩
theorem Tryz.lays160 : Go.Proofs.Lays.n160 Tryz.prog Tryz.lays160_ren := {
 mixed := by kernel_rfl
 f119 := Tryz.func205.trans (congrArg some (by kernel_rfl))
 f120 := Tryz.func190.trans (congrArg some (by kernel_rfl))
 f137 := Tryz.func159.trans (congrArg some (by kernel_rfl))
 f151 := Tryz.func168.trans (congrArg some (by kernel_rfl))
 f152 := Tryz.func191.trans (congrArg some (by kernel_rfl))
 f160 := Tryz.func206.trans (congrArg some (by kernel_rfl))
 f197 := Tryz.func188.trans (congrArg some (by kernel_rfl))
 f217 := Tryz.func182.trans (congrArg some (by kernel_rfl))
 f224 := Tryz.func202.trans (congrArg some (by kernel_rfl))
 f225 := Tryz.func201.trans (congrArg some (by kernel_rfl))
 f227 := Tryz.func132.trans (congrArg some (by kernel_rfl))
 f228 := Tryz.func166.trans (congrArg some (by kernel_rfl))
 f231 := Tryz.func218.trans (congrArg some (by kernel_rfl))
 f232 := Tryz.func131.trans (congrArg some (by kernel_rfl))
 f233 := Tryz.func219.trans (congrArg some (by kernel_rfl))
 f234 := Tryz.func133.trans (congrArg some (by kernel_rfl))
 f235 := Tryz.func220.trans (congrArg some (by kernel_rfl))
 f236 := Tryz.func134.trans (congrArg some (by kernel_rfl))
 f260 := Tryz.func204.trans (congrArg some (by kernel_rfl))
 f266 := Tryz.func200.trans (congrArg some (by kernel_rfl))
 f271 := Tryz.func167.trans (congrArg some (by kernel_rfl))
 t0 := Tryz.underlying0
 a0 := Tryz.isAgg0
 z0 := Tryz.sizeOf0
 v0 := Tryz.zeroValue0
 t3 := Tryz.underlying3
 a3 := Tryz.isAgg3
 z3 := Tryz.sizeOf3
 v3 := Tryz.zeroValue3
 t4 := Tryz.underlying4
 a4 := Tryz.isAgg4
 z4 := Tryz.sizeOf4
 v4 := Tryz.zeroValue4
 t5 := Tryz.underlying5
 a5 := Tryz.isAgg5
 z5 := Tryz.sizeOf5
 v5 := Tryz.zeroValue5
 t9 := Tryz.underlying9
 a9 := Tryz.isAgg9
 z9 := Tryz.sizeOf9
 v9 := Tryz.zeroValue9
 t21 := Tryz.underlying21
 a21 := Tryz.isAgg21
 z21 := Tryz.sizeOf21
 v21 := Tryz.zeroValue21
 t46 := Tryz.underlying119
 a46 := Tryz.isAgg119
 z46 := Tryz.sizeOf119
 v46 := Tryz.zeroValue119
 t105 := Tryz.underlying199
 a105 := Tryz.isAgg199
 z105 := Tryz.sizeOf199
 v105 := Tryz.zeroValue199
 t116 := Tryz.underlying172
 a116 := Tryz.isAgg172
 z116 := Tryz.sizeOf172
 t117 := Tryz.underlying173
 a117 := Tryz.isAgg173
 z117 := Tryz.sizeOf173
 v117 := Tryz.zeroValue173
 t119 := Tryz.underlying233
 a119 := Tryz.isAgg233
 z119 := Tryz.sizeOf233
 t124 := Tryz.underlying176
 a124 := Tryz.isAgg176
 z124 := Tryz.sizeOf176
 v124 := Tryz.zeroValue176
 t138 := Tryz.underlying235
 a138 := Tryz.isAgg235
 z138 := Tryz.sizeOf235
 v138 := Tryz.zeroValue235
 t139 := Tryz.underlying236
 a139 := Tryz.isAgg236
 z139 := Tryz.sizeOf236
 v139 := Tryz.zeroValue236
 g3 := by kernel_rfl
 g4 := by kernel_rfl }
def Tryz.lays106_ren : Go.Shelf.Ren := ⟨fun | 106 => 41 | 213 => 76 | 265 => 122 | n => n, fun | 9 => 9 | 3 => 3 | n => n, fun | n => n⟩
theorem Tryz.lays106 : Go.Proofs.Lays.n106 Tryz.prog Tryz.lays106_ren := {
 mixed := by kernel_rfl
 f106 := Tryz.func41.trans (congrArg some (by kernel_rfl))
 f213 := Tryz.func76.trans (congrArg some (by kernel_rfl))
 f265 := Tryz.func122.trans (congrArg some (by kernel_rfl))
 t3 := Tryz.underlying3
 a3 := Tryz.isAgg3
 z3 := Tryz.sizeOf3
 v3 := Tryz.zeroValue3
 t9 := Tryz.underlying9
 a9 := Tryz.isAgg9
 z9 := Tryz.sizeOf9
 v9 := Tryz.zeroValue9 }
open Go.RowKit in
theorem Tryz.strings_Compare (a b : ByteArray) (w : World) :
 Calls Tryz.prog 41 #[.string a, .string b] w fun e w' => e = .returned (.int .i64 (Lib.compareBytes a.data.toList b.data.toList)) ∧ w' = w := Any.strings_Compare Tryz.lays106 a b w
def Tryz.lays137_ren : Go.Shelf.Ren := ⟨fun | 137 => 159 | 217 => 182 | 266 => 200 | n => n, fun | 9 => 9 | 5 => 5 | 3 => 3 | n => n, fun | n => n⟩
theorem Tryz.lays137 : Go.Proofs.Lays.n137 Tryz.prog Tryz.lays137_ren := {
 mixed := by kernel_rfl
 f137 := Tryz.func159.trans (congrArg some (by kernel_rfl))
 f217 := Tryz.func182.trans (congrArg some (by kernel_rfl))
 f266 := Tryz.func200.trans (congrArg some (by kernel_rfl))
 t3 := Tryz.underlying3
 a3 := Tryz.isAgg3
 z3 := Tryz.sizeOf3
 v3 := Tryz.zeroValue3
 t5 := Tryz.underlying5
 a5 := Tryz.isAgg5
 z5 := Tryz.sizeOf5
 v5 := Tryz.zeroValue5
 t9 := Tryz.underlying9
 a9 := Tryz.isAgg9
 z9 := Tryz.sizeOf9
 v9 := Tryz.zeroValue9 }
open Go.RowKit in
theorem Tryz.strings_IndexByte (s : ByteArray) (c : Int) (w : World) :
 Calls Tryz.prog 159 #[.string s, .int .u8 c] w fun e w' => e = .returned (.int .i64 (Lib.indexByte s.data.toList c.toNat.toUInt8)) ∧ w' = w := Any.strings_IndexByte Tryz.lays137 s c w
def Tryz.lays103_ren : Go.Shelf.Ren := ⟨fun | 103 => 213 | 210 => 226 | 206 => 138 | n => n, fun | 9 => 9 | 4 => 4 | 24 => 195 | 3 => 3 | n => n, fun | n => n⟩
theorem Tryz.lays103 : Go.Proofs.Lays.n103 Tryz.prog Tryz.lays103_ren := {
 mixed := by kernel_rfl
 f103 := Tryz.func213.trans (congrArg some (by kernel_rfl))
 f206 := Tryz.func138.trans (congrArg some (by kernel_rfl))
 f210 := Tryz.func226.trans (congrArg some (by kernel_rfl))
 t3 := Tryz.underlying3
 a3 := Tryz.isAgg3
 z3 := Tryz.sizeOf3
 v3 := Tryz.zeroValue3
 t4 := Tryz.underlying4
 a4 := Tryz.isAgg4
 z4 := Tryz.sizeOf4
 v4 := Tryz.zeroValue4
 t9 := Tryz.underlying9
 a9 := Tryz.isAgg9
 z9 := Tryz.sizeOf9
 v9 := Tryz.zeroValue9
 t24 := Tryz.underlying195
 a24 := Tryz.isAgg195
 z24 := Tryz.sizeOf195
 v24 := Tryz.zeroValue195 }
open Go.RowKit in
theorem Tryz.strings_CutPrefix (s p : ByteArray) (w : World) :
 Calls Tryz.prog 213 #[.string s, .string p] w fun e w' => e = .returned (.tuple #[.string ⟨(Lib.trimPrefix s.data.toList p.data.toList).toArray⟩, .bool (Lib.hasPrefix s.data.toList p.data.toList)]) ∧ w' = w := Any.strings_CutPrefix Tryz.lays103 s p w
def Tryz.lays122_ren : Go.Shelf.Ren := ⟨fun | 122 => 42 | 215 => 77 | n => n, fun | 3 => 3 | 4 => 4 | n => n, fun | n => n⟩
theorem Tryz.lays122 : Go.Proofs.Lays.n122 Tryz.prog Tryz.lays122_ren := {
 mixed := by kernel_rfl
 f122 := Tryz.func42.trans (congrArg some (by kernel_rfl))
 f215 := Tryz.func77.trans (congrArg some (by kernel_rfl))
 t3 := Tryz.underlying3
 a3 := Tryz.isAgg3
 z3 := Tryz.sizeOf3
 v3 := Tryz.zeroValue3
 t4 := Tryz.underlying4
 a4 := Tryz.isAgg4
 z4 := Tryz.sizeOf4
 v4 := Tryz.zeroValue4 }
open Go.RowKit in
theorem Tryz.cmp_Compare_int (x y : Int) (w : World) :
 Calls Tryz.prog 42 #[.int .i64 x, .int .i64 y] w fun e w' => e = .returned (.int .i64 (Lib.compareInt x y)) ∧ w' = w := Any.cmp_Compare_int Tryz.lays122 x y w
def Tryz.laysM171_ren : Go.Shelf.Ren := ⟨fun | 171 => 211 | 243 => 225 | 246 => 236 | 283 => 241 | 284 => 242 | 285 => 243 | 286 => 244 | 129 => 121 | 317 => 247 | 318 => 248 | 319 => 249 | 320 => 250 | 337 => 251 | 338 => 252 | n => n, fun | 3 => 3 | 9 => 9 | 2 => 2 | 4 => 4 | 171 => 255 | 0 => 0 | 53 => 163 | 37 => 144 | 5 => 5 | 173 => 257 | 212 => 266 | 51 => 161 | 20 => 20 | 213 => 267 | 46 => 119 | 232 => 268 | 233 => 269 | n => n, fun | 17 => 6 | 18 => 7 | 19 => 8 | n => n⟩
theorem Tryz.laysM171 : Go.Proofs.LaysM.n171 Tryz.prog Tryz.laysM171_ren := {
 mixed := by kernel_rfl
 f129 := Tryz.func121.trans (congrArg some (by kernel_rfl))
 f171 := Tryz.func211.trans (congrArg some (by kernel_rfl))
 f243 := Tryz.func225.trans (congrArg some (by kernel_rfl))
 f246 := Tryz.func236.trans (congrArg some (by kernel_rfl))
 f283 := Tryz.func241.trans (congrArg some (by kernel_rfl))
 f284 := Tryz.func242.trans (congrArg some (by kernel_rfl))
 f285 := Tryz.func243.trans (congrArg some (by kernel_rfl))
 f286 := Tryz.func244.trans (congrArg some (by kernel_rfl))
 f317 := Tryz.func247.trans (congrArg some (by kernel_rfl))
 f318 := Tryz.func248.trans (congrArg some (by kernel_rfl))
 f319 := Tryz.func249.trans (congrArg some (by kernel_rfl))
 f320 := Tryz.func250.trans (congrArg some (by kernel_rfl))
 f337 := Tryz.func251.trans (congrArg some (by kernel_rfl))
 f338 := Tryz.func252.trans (congrArg some (by kernel_rfl))
 t0 := Tryz.underlying0
 a0 := Tryz.isAgg0
 z0 := Tryz.sizeOf0
 v0 := Tryz.zeroValue0
 t2 := Tryz.underlying2
 a2 := Tryz.isAgg2
 z2 := Tryz.sizeOf2
 v2 := Tryz.zeroValue2
 t3 := Tryz.underlying3
 a3 := Tryz.isAgg3
 z3 := Tryz.sizeOf3
 v3 := Tryz.zeroValue3
 t4 := Tryz.underlying4
 a4 := Tryz.isAgg4
 z4 := Tryz.sizeOf4
 v4 := Tryz.zeroValue4
 t5 := Tryz.underlying5
 a5 := Tryz.isAgg5
 z5 := Tryz.sizeOf5
 v5 := Tryz.zeroValue5
 t9 := Tryz.underlying9
 a9 := Tryz.isAgg9
 z9 := Tryz.sizeOf9
 v9 := Tryz.zeroValue9
 t20 := Tryz.underlying20
 a20 := Tryz.isAgg20
 z20 := Tryz.sizeOf20
 v20 := Tryz.zeroValue20
 t37 := Tryz.underlying144
 a37 := Tryz.isAgg144
 z37 := Tryz.sizeOf144
 v37 := Tryz.zeroValue144
 t46 := Tryz.underlying119
 a46 := Tryz.isAgg119
 z46 := Tryz.sizeOf119
 v46 := Tryz.zeroValue119
 t51 := Tryz.underlying161
 a51 := Tryz.isAgg161
 z51 := Tryz.sizeOf161
 v51 := Tryz.zeroValue161
 t53 := Tryz.underlying163
 a53 := Tryz.isAgg163
 z53 := Tryz.sizeOf163
 v53 := Tryz.zeroValue163
 t171 := Tryz.underlying255
 a171 := Tryz.isAgg255
 z171 := Tryz.sizeOf255
 v171 := Tryz.zeroValue255
 t173 := Tryz.underlying257
 a173 := Tryz.isAgg257
 z173 := Tryz.sizeOf257
 v173 := Tryz.zeroValue257
 t212 := Tryz.underlying266
 a212 := Tryz.isAgg266
 z212 := Tryz.sizeOf266
 v212 := Tryz.zeroValue266
 t213 := Tryz.underlying267
 a213 := Tryz.isAgg267
 z213 := Tryz.sizeOf267
 t232 := Tryz.underlying268
 a232 := Tryz.isAgg268
 z232 := Tryz.sizeOf268
 v232 := Tryz.zeroValue268
 t233 := Tryz.underlying269
 a233 := Tryz.isAgg269
 z233 := Tryz.sizeOf269
 v233 := Tryz.zeroValue269
 g17 := by kernel_rfl
 g18 := by kernel_rfl
 g19 := by kernel_rfl
 i0 := by kernel_rfl
 i2 := by kernel_rfl
 i3 := by kernel_rfl
 i4 := by kernel_rfl
 i5 := by kernel_rfl
 i9 := by kernel_rfl
 i20 := by kernel_rfl
 i37 := by kernel_rfl
 i46 := by kernel_rfl
 i51 := by kernel_rfl
 i53 := by kernel_rfl
 i171 := by kernel_rfl
 i173 := by kernel_rfl
 i212 := by kernel_rfl
 i232 := by kernel_rfl
 i233 := by kernel_rfl
 m17 := by kernel_rfl
 m18 := by kernel_rfl
 m19 := by kernel_rfl }
open Go.RowKit Go.Sort Go.Lib in
theorem Tryz.strconv_Itoa (n : Int) (h0 : -9223372036854775808 ≤ n) (h1 : n ≤ 9223372036854775807) (w : World) (htab : Lib.TabIs Tryz.prog w "internal/strconv.uint64pow10" .u64 Lib.pow10Tab) :
 Calls Tryz.prog 211 #[.int .i64 n] w fun e w' => e = .returned (.string ⟨(Lib.itoa n).toArray⟩) ∧ ∃ k os, w' = grow (w.drewN k) os := Any.strconv_Itoa Tryz.laysM171 n h0 h1 w htab
def Tryz.laysC172_ren : Go.Shelf.Ren := ⟨fun | 172 => 210 | 244 => 224 | 245 => 222 | 247 => 235 | 279 => 231 | 280 => 232 | 281 => 233 | 282 => 234 | 287 => 221 | 316 => 239 | 171 => 211 | 205 => 240 | 321 => 229 | 322 => 230 | 243 => 225 | 246 => 236 | 283 => 241 | 284 => 242 | 285 => 243 | 286 => 244 | 129 => 121 | 317 => 247 | 318 => 248 | 319 => 249 | 320 => 250 | 337 => 251 | 338 => 252 | n => n, fun | 9 => 9 | 3 => 3 | 75 => 149 | 76 => 150 | 4 => 4 | 5 => 5 | 167 => 241 | 37 => 144 | 0 => 0 | 85 => 246 | 2 => 2 | 168 => 243 | 53 => 163 | 175 => 224 | 46 => 119 | 210 => 253 | 127 => 180 | 145 => 264 | 143 => 262 | 21 => 21 | 171 => 255 | 173 => 257 | 212 => 266 | 51 => 161 | 20 => 20 | 213 => 267 | 232 => 268 | 233 => 269 | 80 => 152 | n => n, fun | 15 => 4 | 16 => 5 | 17 => 6 | 18 => 7 | 19 => 8 | n => n⟩
theorem Tryz.laysC172 : Go.Proofs.LaysC.n172 Tryz.prog Tryz.laysC172_ren := {
 mixed := by kernel_rfl
 f129 := Tryz.func121.trans (congrArg some (by kernel_rfl))
 f171 := Tryz.func211.trans (congrArg some (by kernel_rfl))
 f172 := Tryz.func210.trans (congrArg some (by kernel_rfl))
 f205 := Tryz.func240.trans (congrArg some (by kernel_rfl))
 f243 := Tryz.func225.trans (congrArg some (by kernel_rfl))
 f244 := Tryz.func224.trans (congrArg some (by kernel_rfl))
 f245 := Tryz.func222.trans (congrArg some (by kernel_rfl))
 f246 := Tryz.func236.trans (congrArg some (by kernel_rfl))
 f247 := Tryz.func235.trans (congrArg some (by kernel_rfl))
 f279 := Tryz.func231.trans (congrArg some (by kernel_rfl))
 f280 := Tryz.func232.trans (congrArg some (by kernel_rfl))
 f281 := Tryz.func233.trans (congrArg some (by kernel_rfl))
 f282 := Tryz.func234.trans (congrArg some (by kernel_rfl))
 f283 := Tryz.func241.trans (congrArg some (by kernel_rfl))
 f284 := Tryz.func242.trans (congrArg some (by kernel_rfl))
 f285 := Tryz.func243.trans (congrArg some (by kernel_rfl))
 f286 := Tryz.func244.trans (congrArg some (by kernel_rfl))
 f287 := Tryz.func221.trans (congrArg some (by kernel_rfl))
 f316 := Tryz.func239.trans (congrArg some (by kernel_rfl))
 f317 := Tryz.func247.trans (congrArg some (by kernel_rfl))
 f318 := Tryz.func248.trans (congrArg some (by kernel_rfl))
 f319 := Tryz.func249.trans (congrArg some (by kernel_rfl))
 f320 := Tryz.func250.trans (congrArg some (by kernel_rfl))
 f321 := Tryz.func229.trans (congrArg some (by kernel_rfl))
 f322 := Tryz.func230.trans (congrArg some (by kernel_rfl))
 f337 := Tryz.func251.trans (congrArg some (by kernel_rfl))
 f338 := Tryz.func252.trans (congrArg some (by kernel_rfl))
 t0 := Tryz.underlying0
 a0 := Tryz.isAgg0
 z0 := Tryz.sizeOf0
 v0 := Tryz.zeroValue0
 t2 := Tryz.underlying2
 a2 := Tryz.isAgg2
 z2 := Tryz.sizeOf2
 v2 := Tryz.zeroValue2
 t3 := Tryz.underlying3
 a3 := Tryz.isAgg3
 z3 := Tryz.sizeOf3
 v3 := Tryz.zeroValue3
 t4 := Tryz.underlying4
 a4 := Tryz.isAgg4
 z4 := Tryz.sizeOf4
 v4 := Tryz.zeroValue4
 t5 := Tryz.underlying5
 a5 := Tryz.isAgg5
 z5 := Tryz.sizeOf5
 v5 := Tryz.zeroValue5
 t9 := Tryz.underlying9
 a9 := Tryz.isAgg9
 z9 := Tryz.sizeOf9
 v9 := Tryz.zeroValue9
 t20 := Tryz.underlying20
 a20 := Tryz.isAgg20
 z20 := Tryz.sizeOf20
 v20 := Tryz.zeroValue20
 t21 := Tryz.underlying21
 a21 := Tryz.isAgg21
 z21 := Tryz.sizeOf21
 v21 := Tryz.zeroValue21
 t37 := Tryz.underlying144
 a37 := Tryz.isAgg144
 z37 := Tryz.sizeOf144
 v37 := Tryz.zeroValue144
 t46 := Tryz.underlying119
 a46 := Tryz.isAgg119
 z46 := Tryz.sizeOf119
 v46 := Tryz.zeroValue119
 t51 := Tryz.underlying161
 a51 := Tryz.isAgg161
 z51 := Tryz.sizeOf161
 v51 := Tryz.zeroValue161
 t53 := Tryz.underlying163
 a53 := Tryz.isAgg163
 z53 := Tryz.sizeOf163
 v53 := Tryz.zeroValue163
 t75 := Tryz.underlying149
 a75 := Tryz.isAgg149
 z75 := Tryz.sizeOf149
 v75 := Tryz.zeroValue149
 t76 := Tryz.underlying150
 a76 := Tryz.isAgg150
 z76 := Tryz.sizeOf150
 v76 := Tryz.zeroValue150
 t85 := Tryz.underlying246
 a85 := Tryz.isAgg246
 z85 := Tryz.sizeOf246
 v85 := Tryz.zeroValue246
 t127 := Tryz.underlying180
 a127 := Tryz.isAgg180
 z127 := Tryz.sizeOf180
 v127 := Tryz.zeroValue180
 t143 := Tryz.underlying262
 a143 := Tryz.isAgg262
 z143 := Tryz.sizeOf262
 v143 := Tryz.zeroValue262
 t145 := Tryz.underlying264
 a145 := Tryz.isAgg264
 z145 := Tryz.sizeOf264
 v145 := Tryz.zeroValue264
 t167 := Tryz.underlying241
 a167 := Tryz.isAgg241
 z167 := Tryz.sizeOf241
 v167 := Tryz.zeroValue241
 t168 := Tryz.underlying243
 a168 := Tryz.isAgg243
 z168 := Tryz.sizeOf243
 v168 := Tryz.zeroValue243
 t171 := Tryz.underlying255
 a171 := Tryz.isAgg255
 z171 := Tryz.sizeOf255
 v171 := Tryz.zeroValue255
 t173 := Tryz.underlying257
 a173 := Tryz.isAgg257
 z173 := Tryz.sizeOf257
 v173 := Tryz.zeroValue257
 t175 := Tryz.underlying224
 a175 := Tryz.isAgg224
 z175 := Tryz.sizeOf224
 v175 := Tryz.zeroValue224
 t210 := Tryz.underlying253
 a210 := Tryz.isAgg253
 z210 := Tryz.sizeOf253
 v210 := Tryz.zeroValue253
 t212 := Tryz.underlying266
 a212 := Tryz.isAgg266
 z212 := Tryz.sizeOf266
 v212 := Tryz.zeroValue266
 t213 := Tryz.underlying267
 a213 := Tryz.isAgg267
 z213 := Tryz.sizeOf267
 t232 := Tryz.underlying268
 a232 := Tryz.isAgg268
 z232 := Tryz.sizeOf268
 v232 := Tryz.zeroValue268
 t233 := Tryz.underlying269
 a233 := Tryz.isAgg269
 z233 := Tryz.sizeOf269
 v233 := Tryz.zeroValue269
 g15 := by kernel_rfl
 g16 := by kernel_rfl
 g17 := by kernel_rfl
 g18 := by kernel_rfl
 g19 := by kernel_rfl
 t80 := Tryz.underlying152
 a80 := Tryz.isAgg152
 z80 := Tryz.sizeOf152
 v80 := Tryz.zeroValue152
 i0 := by kernel_rfl
 i2 := by kernel_rfl
 i3 := by kernel_rfl
 i4 := by kernel_rfl
 i5 := by kernel_rfl
 i9 := by kernel_rfl
 i20 := by kernel_rfl
 i21 := by kernel_rfl
 i37 := by kernel_rfl
 i46 := by kernel_rfl
 i51 := by kernel_rfl
 i53 := by kernel_rfl
 i75 := by kernel_rfl
 i76 := by kernel_rfl
 i80 := by kernel_rfl
 i85 := by kernel_rfl
 i127 := by kernel_rfl
 i143 := by kernel_rfl
 i145 := by kernel_rfl
 i167 := by kernel_rfl
 i168 := by kernel_rfl
 i171 := by kernel_rfl
 i173 := by kernel_rfl
 i175 := by kernel_rfl
 i210 := by kernel_rfl
 i212 := by kernel_rfl
 i232 := by kernel_rfl
 i233 := by kernel_rfl
 m15 := by kernel_rfl
 m16 := by kernel_rfl
 m17 := by kernel_rfl
 m18 := by kernel_rfl
 m19 := by kernel_rfl
 c0 := by kernel_rfl
 c2 := by kernel_rfl
 c3 := by kernel_rfl
 c4 := by kernel_rfl
 c5 := by kernel_rfl
 c9 := by kernel_rfl
 c20 := by kernel_rfl
 c21 := by kernel_rfl
 c37 := by kernel_rfl
 c46 := by kernel_rfl
 c51 := by kernel_rfl
 c53 := by kernel_rfl
 c75 := by kernel_rfl
 c76 := by kernel_rfl
 c80 := by kernel_rfl
 c85 := by kernel_rfl
 c127 := by kernel_rfl
 c143 := by kernel_rfl
 c145 := by kernel_rfl
 c167 := by kernel_rfl
 c168 := by kernel_rfl
 c171 := by kernel_rfl
 c173 := by kernel_rfl
 c175 := by kernel_rfl
 c210 := by kernel_rfl
 c212 := by kernel_rfl
 c213 := by kernel_rfl
 c232 := by kernel_rfl
 c233 := by kernel_rfl }
open Go.RowKit in
theorem Tryz.strconv_Atoi_ok (s : ByteArray) (hmax : s.size ≤ 9223372036854775806) (v : Int) (h : Lib.atoiAll s.data.toList = .ok v) (w : World) :
 Calls Tryz.prog 210 #[.string s] w fun e w' => e = .returned (.tuple #[.int .i64 v, .nilIface]) ∧ (w' = w ∨ ∃ t, w' = Lib.bytesWorld w 5 t) := Any.strconv_Atoi_ok Tryz.laysC172 s hmax v h w
def Tryz.laysPu14_ren : Go.Shelf.Ren := ⟨fun | 14 => 207 | 16 => 221 | 17 => 222 | 19 => 229 | 20 => 230 | 21 => 231 | 22 => 232 | 23 => 233 | 24 => 234 | 25 => 239 | 27 => 211 | 26 => 240 | 28 => 225 | 29 => 236 | 30 => 241 | 31 => 242 | 32 => 243 | 33 => 244 | 35 => 121 | 34 => 247 | 36 => 248 | 37 => 249 | 38 => 250 | 39 => 251 | 40 => 252 | n => n, fun | 9 => 9 | 3 => 3 | 22 => 163 | 24 => 149 | 25 => 224 | 4 => 4 | 34 => 241 | 5 => 5 | 36 => 119 | 37 => 144 | 0 => 0 | 39 => 243 | 21 => 21 | 44 => 253 | 47 => 180 | 50 => 264 | 48 => 262 | 2 => 2 | 52 => 255 | 55 => 257 | 59 => 266 | 60 => 161 | 20 => 20 | 61 => 267 | 65 => 268 | 66 => 269 | 67 => 152 | n => n, fun | 0 => 4 | 1 => 5 | 2 => 6 | 3 => 7 | 4 => 8 | n => n⟩
theorem Tryz.laysPu14 : Go.Proofs.LaysPu.n14 Tryz.prog Tryz.laysPu14_ren := {
 mixed := by kernel_rfl
 f14 := Tryz.func207.trans (congrArg some (by kernel_rfl))
 f16 := Tryz.func221.trans (congrArg some (by kernel_rfl))
 f17 := Tryz.func222.trans (congrArg some (by kernel_rfl))
 f19 := Tryz.func229.trans (congrArg some (by kernel_rfl))
 f20 := Tryz.func230.trans (congrArg some (by kernel_rfl))
 f21 := Tryz.func231.trans (congrArg some (by kernel_rfl))
 f22 := Tryz.func232.trans (congrArg some (by kernel_rfl))
 f23 := Tryz.func233.trans (congrArg some (by kernel_rfl))
 f24 := Tryz.func234.trans (congrArg some (by kernel_rfl))
 f25 := Tryz.func239.trans (congrArg some (by kernel_rfl))
 f26 := Tryz.func240.trans (congrArg some (by kernel_rfl))
 f27 := Tryz.func211.trans (congrArg some (by kernel_rfl))
 f28 := Tryz.func225.trans (congrArg some (by kernel_rfl))
 f29 := Tryz.func236.trans (congrArg some (by kernel_rfl))
 f30 := Tryz.func241.trans (congrArg some (by kernel_rfl))
 f31 := Tryz.func242.trans (congrArg some (by kernel_rfl))
 f32 := Tryz.func243.trans (congrArg some (by kernel_rfl))
 f33 := Tryz.func244.trans (congrArg some (by kernel_rfl))
 f34 := Tryz.func247.trans (congrArg some (by kernel_rfl))
 f35 := Tryz.func121.trans (congrArg some (by kernel_rfl))
 f36 := Tryz.func248.trans (congrArg some (by kernel_rfl))
 f37 := Tryz.func249.trans (congrArg some (by kernel_rfl))
 f38 := Tryz.func250.trans (congrArg some (by kernel_rfl))
 f39 := Tryz.func251.trans (congrArg some (by kernel_rfl))
 f40 := Tryz.func252.trans (congrArg some (by kernel_rfl))
 t0 := Tryz.underlying0
 a0 := Tryz.isAgg0
 z0 := Tryz.sizeOf0
 v0 := Tryz.zeroValue0
 i0 := by kernel_rfl
 t2 := Tryz.underlying2
 a2 := Tryz.isAgg2
 z2 := Tryz.sizeOf2
 v2 := Tryz.zeroValue2
 i2 := by kernel_rfl
 t3 := Tryz.underlying3
 a3 := Tryz.isAgg3
 z3 := Tryz.sizeOf3
 v3 := Tryz.zeroValue3
 i3 := by kernel_rfl
 t4 := Tryz.underlying4
 a4 := Tryz.isAgg4
 z4 := Tryz.sizeOf4
 v4 := Tryz.zeroValue4
 i4 := by kernel_rfl
 t5 := Tryz.underlying5
 a5 := Tryz.isAgg5
 z5 := Tryz.sizeOf5
 v5 := Tryz.zeroValue5
 i5 := by kernel_rfl
 t9 := Tryz.underlying9
 a9 := Tryz.isAgg9
 z9 := Tryz.sizeOf9
 v9 := Tryz.zeroValue9
 i9 := by kernel_rfl
 t20 := Tryz.underlying20
 a20 := Tryz.isAgg20
 z20 := Tryz.sizeOf20
 v20 := Tryz.zeroValue20
 i20 := by kernel_rfl
 t21 := Tryz.underlying21
 a21 := Tryz.isAgg21
 z21 := Tryz.sizeOf21
 v21 := Tryz.zeroValue21
 i21 := by kernel_rfl
 t22 := Tryz.underlying163
 a22 := Tryz.isAgg163
 z22 := Tryz.sizeOf163
 v22 := Tryz.zeroValue163
 i22 := by kernel_rfl
 t24 := Tryz.underlying149
 a24 := Tryz.isAgg149
 z24 := Tryz.sizeOf149
 v24 := Tryz.zeroValue149
 i24 := by kernel_rfl
 t25 := Tryz.underlying224
 a25 := Tryz.isAgg224
 z25 := Tryz.sizeOf224
 v25 := Tryz.zeroValue224
 i25 := by kernel_rfl
 t34 := Tryz.underlying241
 a34 := Tryz.isAgg241
 z34 := Tryz.sizeOf241
 v34 := Tryz.zeroValue241
 i34 := by kernel_rfl
 c34 := by kernel_rfl
 t36 := Tryz.underlying119
 a36 := Tryz.isAgg119
 z36 := Tryz.sizeOf119
 v36 := Tryz.zeroValue119
 i36 := by kernel_rfl
 t37 := Tryz.underlying144
 a37 := Tryz.isAgg144
 z37 := Tryz.sizeOf144
 v37 := Tryz.zeroValue144
 i37 := by kernel_rfl
 t39 := Tryz.underlying243
 a39 := Tryz.isAgg243
 z39 := Tryz.sizeOf243
 v39 := Tryz.zeroValue243
 i39 := by kernel_rfl
 t44 := Tryz.underlying253
 a44 := Tryz.isAgg253
 z44 := Tryz.sizeOf253
 v44 := Tryz.zeroValue253
 i44 := by kernel_rfl
 t47 := Tryz.underlying180
 a47 := Tryz.isAgg180
 z47 := Tryz.sizeOf180
 v47 := Tryz.zeroValue180
 i47 := by kernel_rfl
 t48 := Tryz.underlying262
 a48 := Tryz.isAgg262
 z48 := Tryz.sizeOf262
 v48 := Tryz.zeroValue262
 i48 := by kernel_rfl
 t50 := Tryz.underlying264
 a50 := Tryz.isAgg264
 z50 := Tryz.sizeOf264
 v50 := Tryz.zeroValue264
 i50 := by kernel_rfl
 t52 := Tryz.underlying255
 a52 := Tryz.isAgg255
 z52 := Tryz.sizeOf255
 v52 := Tryz.zeroValue255
 i52 := by kernel_rfl
 t55 := Tryz.underlying257
 a55 := Tryz.isAgg257
 z55 := Tryz.sizeOf257
 v55 := Tryz.zeroValue257
 i55 := by kernel_rfl
 t59 := Tryz.underlying266
 a59 := Tryz.isAgg266
 z59 := Tryz.sizeOf266
 v59 := Tryz.zeroValue266
 i59 := by kernel_rfl
 t60 := Tryz.underlying161
 a60 := Tryz.isAgg161
 z60 := Tryz.sizeOf161
 v60 := Tryz.zeroValue161
 i60 := by kernel_rfl
 t61 := Tryz.underlying267
 a61 := Tryz.isAgg267
 z61 := Tryz.sizeOf267
 t65 := Tryz.underlying268
 a65 := Tryz.isAgg268
 z65 := Tryz.sizeOf268
 v65 := Tryz.zeroValue268
 i65 := by kernel_rfl
 t66 := Tryz.underlying269
 a66 := Tryz.isAgg269
 z66 := Tryz.sizeOf269
 v66 := Tryz.zeroValue269
 i66 := by kernel_rfl
 t67 := Tryz.underlying152
 a67 := Tryz.isAgg152
 z67 := Tryz.sizeOf152
 v67 := Tryz.zeroValue152
 i67 := by kernel_rfl
 g0 := by kernel_rfl
 m0 := by kernel_rfl
 g1 := by kernel_rfl
 m1 := by kernel_rfl
 g2 := by kernel_rfl
 m2 := by kernel_rfl
 g3 := by kernel_rfl
 m3 := by kernel_rfl
 g4 := by kernel_rfl
 m4 := by kernel_rfl }
def Tryz.lays145_ren : Go.Shelf.Ren := ⟨fun | 145 => 196 | 220 => 216 | 219 => 183 | 217 => 182 | 225 => 201 | 224 => 202 | 267 => 203 | 266 => 200 | 314 => 217 | n => n, fun | 9 => 9 | 4 => 4 | 59 => 220 | 3 => 3 | 5 => 5 | 46 => 119 | 146 => 231 | 51 => 161 | n => n, fun | 1 => 0 | n => n⟩
theorem Tryz.lays145 : Go.Proofs.Lays.n145 Tryz.prog Tryz.lays145_ren := {
 mixed := by kernel_rfl
 f145 := Tryz.func196.trans (congrArg some (by kernel_rfl))
 f217 := Tryz.func182.trans (congrArg some (by kernel_rfl))
 f219 := Tryz.func183.trans (congrArg some (by kernel_rfl))
 f220 := Tryz.func216.trans (congrArg some (by kernel_rfl))
 f224 := Tryz.func202.trans (congrArg some (by kernel_rfl))
 f225 := Tryz.func201.trans (congrArg some (by kernel_rfl))
 f266 := Tryz.func200.trans (congrArg some (by kernel_rfl))
 f267 := Tryz.func203.trans (congrArg some (by kernel_rfl))
 f314 := Tryz.func217.trans (congrArg some (by kernel_rfl))
 t3 := Tryz.underlying3
 a3 := Tryz.isAgg3
 z3 := Tryz.sizeOf3
 v3 := Tryz.zeroValue3
 t4 := Tryz.underlying4
 a4 := Tryz.isAgg4
 z4 := Tryz.sizeOf4
 v4 := Tryz.zeroValue4
 t5 := Tryz.underlying5
 a5 := Tryz.isAgg5
 z5 := Tryz.sizeOf5
 v5 := Tryz.zeroValue5
 t9 := Tryz.underlying9
 a9 := Tryz.isAgg9
 z9 := Tryz.sizeOf9
 v9 := Tryz.zeroValue9
 t46 := Tryz.underlying119
 a46 := Tryz.isAgg119
 z46 := Tryz.sizeOf119
 v46 := Tryz.zeroValue119
 t51 := Tryz.underlying161
 a51 := Tryz.isAgg161
 z51 := Tryz.sizeOf161
 v51 := Tryz.zeroValue161
 t59 := Tryz.underlying220
 a59 := Tryz.isAgg220
 z59 := Tryz.sizeOf220
 v59 := Tryz.zeroValue220
 t146 := Tryz.underlying231
 a146 := Tryz.isAgg231
 z146 := Tryz.sizeOf231
 v146 := Tryz.zeroValue231
 g1 := by kernel_rfl }
open Go.RowKit Go.Lib in
theorem Tryz.strings_Cut (s sep : ByteArray) (m : Int) (w : World) (hs : s.size < 4294967281) (hm : w.cell? ⟨0, 0, none⟩ = some (.int .i64 m)) :
 Calls Tryz.prog 196 #[.string s, .string sep] w fun e w' => e = .returned (.tuple #[.string ⟨(Lib.cut s.data.toList sep.data.toList).1.toArray⟩, .string ⟨(Lib.cut s.data.toList sep.data.toList).2.1.toArray⟩, .bool (Lib.cut s.data.toList sep.data.toList).2.2]) ∧ ∃ n, w' = w.drewN n := Any.strings_Cut Tryz.lays145 s sep m w hs hm
def Tryz.lays99_ren : Go.Shelf.Ren := ⟨fun | 99 => 97 | 206 => 138 | n => n, fun | 9 => 9 | 4 => 4 | 3 => 3 | n => n, fun | n => n⟩
theorem Tryz.lays99 : Go.Proofs.Lays.n99 Tryz.prog Tryz.lays99_ren := {
 mixed := by kernel_rfl
 f99 := Tryz.func97.trans (congrArg some (by kernel_rfl))
 f206 := Tryz.func138.trans (congrArg some (by kernel_rfl))
 t3 := Tryz.underlying3
 a3 := Tryz.isAgg3
 z3 := Tryz.sizeOf3
 v3 := Tryz.zeroValue3
 t4 := Tryz.underlying4
 a4 := Tryz.isAgg4
 z4 := Tryz.sizeOf4
 v4 := Tryz.zeroValue4
 t9 := Tryz.underlying9
 a9 := Tryz.isAgg9
 z9 := Tryz.sizeOf9
 v9 := Tryz.zeroValue9 }
open Go.RowKit Go.Lib in
theorem Tryz.strings_HasPrefix (s p : ByteArray) (w : World) :
 Calls Tryz.prog 97 #[.string s, .string p] w fun e w' => e = .returned (.bool (Lib.hasPrefix s.data.toList p.data.toList)) ∧ w' = w := Any.strings_HasPrefix Tryz.lays99 s p w
def Tryz.lays100_ren : Go.Shelf.Ren := ⟨fun | 100 => 88 | 207 => 135 | n => n, fun | 9 => 9 | 4 => 4 | 3 => 3 | n => n, fun | n => n⟩
theorem Tryz.lays100 : Go.Proofs.Lays.n100 Tryz.prog Tryz.lays100_ren := {
 mixed := by kernel_rfl
 f100 := Tryz.func88.trans (congrArg some (by kernel_rfl))
 f207 := Tryz.func135.trans (congrArg some (by kernel_rfl))
 t3 := Tryz.underlying3
 a3 := Tryz.isAgg3
 z3 := Tryz.sizeOf3
 v3 := Tryz.zeroValue3
 t4 := Tryz.underlying4
 a4 := Tryz.isAgg4
 z4 := Tryz.sizeOf4
 v4 := Tryz.zeroValue4
 t9 := Tryz.underlying9
 a9 := Tryz.isAgg9
 z9 := Tryz.sizeOf9
 v9 := Tryz.zeroValue9 }
open Go.RowKit Go.Lib in
theorem Tryz.strings_HasSuffix (s p : ByteArray) (w : World) (hs : s.size ≤ 9223372036854775807) :
 Calls Tryz.prog 88 #[.string s, .string p] w fun e w' => e = .returned (.bool (Lib.hasSuffix s.data.toList p.data.toList)) ∧ w' = w := Any.strings_HasSuffix Tryz.lays100 s p w hs
def Tryz.lays146_ren : Go.Shelf.Ren := ⟨fun | 146 => 86 | 221 => 130 | 268 => 164 | 138 => 165 | 143 => 160 | 195 => 187 | 197 => 188 | 218 => 189 | 219 => 183 | 260 => 204 | 217 => 182 | 225 => 201 | 224 => 202 | 267 => 203 | 266 => 200 | 314 => 217 | n => n, fun | 9 => 9 | 31 => 42 | 3 => 3 | 4 => 4 | 0 => 0 | 105 => 199 | 21 => 21 | 5 => 5 | 46 => 119 | 119 => 233 | 139 => 236 | 138 => 235 | 146 => 231 | 51 => 161 | n => n, fun | 1 => 0 | 3 => 2 | 4 => 3 | n => n⟩
theorem Tryz.lays146 : Go.Proofs.Lays.n146 Tryz.prog Tryz.lays146_ren := {
 mixed := by kernel_rfl
 f138 := Tryz.func165.trans (congrArg some (by kernel_rfl))
 f143 := Tryz.func160.trans (congrArg some (by kernel_rfl))
 f146 := Tryz.func86.trans (congrArg some (by kernel_rfl))
 f195 := Tryz.func187.trans (congrArg some (by kernel_rfl))
 f197 := Tryz.func188.trans (congrArg some (by kernel_rfl))
 f217 := Tryz.func182.trans (congrArg some (by kernel_rfl))
 f218 := Tryz.func189.trans (congrArg some (by kernel_rfl))
 f219 := Tryz.func183.trans (congrArg some (by kernel_rfl))
 f221 := Tryz.func130.trans (congrArg some (by kernel_rfl))
 f224 := Tryz.func202.trans (congrArg some (by kernel_rfl))
 f225 := Tryz.func201.trans (congrArg some (by kernel_rfl))
 f260 := Tryz.func204.trans (congrArg some (by kernel_rfl))
 f266 := Tryz.func200.trans (congrArg some (by kernel_rfl))
 f267 := Tryz.func203.trans (congrArg some (by kernel_rfl))
 f268 := Tryz.func164.trans (congrArg some (by kernel_rfl))
 f314 := Tryz.func217.trans (congrArg some (by kernel_rfl))
 t0 := Tryz.underlying0
 a0 := Tryz.isAgg0
 z0 := Tryz.sizeOf0
 v0 := Tryz.zeroValue0
 t3 := Tryz.underlying3
 a3 := Tryz.isAgg3
 z3 := Tryz.sizeOf3
 v3 := Tryz.zeroValue3
 t4 := Tryz.underlying4
 a4 := Tryz.isAgg4
 z4 := Tryz.sizeOf4
 v4 := Tryz.zeroValue4
 t5 := Tryz.underlying5
 a5 := Tryz.isAgg5
 z5 := Tryz.sizeOf5
 v5 := Tryz.zeroValue5
 t9 := Tryz.underlying9
 a9 := Tryz.isAgg9
 z9 := Tryz.sizeOf9
 v9 := Tryz.zeroValue9
 t21 := Tryz.underlying21
 a21 := Tryz.isAgg21
 z21 := Tryz.sizeOf21
 v21 := Tryz.zeroValue21
 t31 := Tryz.underlying42
 a31 := Tryz.isAgg42
 z31 := Tryz.sizeOf42
 v31 := Tryz.zeroValue42
 t46 := Tryz.underlying119
 a46 := Tryz.isAgg119
 z46 := Tryz.sizeOf119
 v46 := Tryz.zeroValue119
 t51 := Tryz.underlying161
 a51 := Tryz.isAgg161
 z51 := Tryz.sizeOf161
 v51 := Tryz.zeroValue161
 t105 := Tryz.underlying199
 a105 := Tryz.isAgg199
 z105 := Tryz.sizeOf199
 v105 := Tryz.zeroValue199
 t119 := Tryz.underlying233
 a119 := Tryz.isAgg233
 z119 := Tryz.sizeOf233
 t138 := Tryz.underlying235
 a138 := Tryz.isAgg235
 z138 := Tryz.sizeOf235
 v138 := Tryz.zeroValue235
 t139 := Tryz.underlying236
 a139 := Tryz.isAgg236
 z139 := Tryz.sizeOf236
 v139 := Tryz.zeroValue236
 t146 := Tryz.underlying231
 a146 := Tryz.isAgg231
 z146 := Tryz.sizeOf231
 v146 := Tryz.zeroValue231
 g1 := by kernel_rfl
 g3 := by kernel_rfl
 g4 := by kernel_rfl }
open Go.RowKit Go.Lib in
theorem Tryz.strings_Split (s sep : ByteArray) (m : Int) (w : World) (hs : s.size < 4294967281) (hm : w.cell? ⟨0, 0, none⟩ = some (.int .i64 m)) (h1 : 1 ≤ sep.size) :
 Calls Tryz.prog 86 #[.string s, .string sep] w fun e w' =>
  e = .returned (.slice (some ⟨w.heap.size, 0, none⟩) (Lib.countB s sep + 1) (Lib.countB s sep + 1)) ∧ w' = w.alloc (.cells ((Lib.splitB sep 0 (Lib.countB s sep) s).map Value.string).toArray 9) := Any.strings_Split Tryz.lays146 (by kernel_rfl) s sep m w hs hm h1
def Tryz.lays155_ren : Go.Shelf.Ren := ⟨fun | 155 => 208 | 154 => 223 | 138 => 165 | 165 => 104 | 143 => 160 | 166 => 105 | 197 => 188 | 169 => 106 | 195 => 187 | 218 => 189 | 240 => 144 | 241 => 145 | 219 => 183 | 260 => 204 | 276 => 173 | 277 => 174 | 217 => 182 | 225 => 201 | 224 => 202 | 267 => 203 | 266 => 200 | 314 => 217 | n => n, fun | 9 => 9 | 3 => 3 | 4 => 4 | 72 => 146 | 0 => 0 | 76 => 150 | 105 => 199 | 21 => 21 | 5 => 5 | 70 => 143 | 20 => 20 | 37 => 144 | 75 => 149 | 127 => 180 | 164 => 205 | 46 => 119 | 119 => 233 | 139 => 236 | 138 => 235 | 146 => 231 | 51 => 161 | 80 => 152 | n => n, fun | 1 => 0 | 3 => 2 | 4 => 3 | n => n⟩
theorem Tryz.lays155 : Go.Proofs.Lays.n155 Tryz.prog Tryz.lays155_ren := {
 mixed := by kernel_rfl
 f138 := Tryz.func165.trans (congrArg some (by kernel_rfl))
 f143 := Tryz.func160.trans (congrArg some (by kernel_rfl))
 f154 := Tryz.func223.trans (congrArg some (by kernel_rfl))
 f155 := Tryz.func208.trans (congrArg some (by kernel_rfl))
 f165 := Tryz.func104.trans (congrArg some (by kernel_rfl))
 f166 := Tryz.func105.trans (congrArg some (by kernel_rfl))
 f169 := Tryz.func106.trans (congrArg some (by kernel_rfl))
 f195 := Tryz.func187.trans (congrArg some (by kernel_rfl))
 f197 := Tryz.func188.trans (congrArg some (by kernel_rfl))
 f217 := Tryz.func182.trans (congrArg some (by kernel_rfl))
 f218 := Tryz.func189.trans (congrArg some (by kernel_rfl))
 f219 := Tryz.func183.trans (congrArg some (by kernel_rfl))
 f224 := Tryz.func202.trans (congrArg some (by kernel_rfl))
 f225 := Tryz.func201.trans (congrArg some (by kernel_rfl))
 f240 := Tryz.func144.trans (congrArg some (by kernel_rfl))
 f241 := Tryz.func145.trans (congrArg some (by kernel_rfl))
 f260 := Tryz.func204.trans (congrArg some (by kernel_rfl))
 f266 := Tryz.func200.trans (congrArg some (by kernel_rfl))
 f267 := Tryz.func203.trans (congrArg some (by kernel_rfl))
 f276 := Tryz.func173.trans (congrArg some (by kernel_rfl))
 f277 := Tryz.func174.trans (congrArg some (by kernel_rfl))
 f314 := Tryz.func217.trans (congrArg some (by kernel_rfl))
 t0 := Tryz.underlying0
 a0 := Tryz.isAgg0
 z0 := Tryz.sizeOf0
 v0 := Tryz.zeroValue0
 t3 := Tryz.underlying3
 a3 := Tryz.isAgg3
 z3 := Tryz.sizeOf3
 v3 := Tryz.zeroValue3
 t4 := Tryz.underlying4
 a4 := Tryz.isAgg4
 z4 := Tryz.sizeOf4
 v4 := Tryz.zeroValue4
 t5 := Tryz.underlying5
 a5 := Tryz.isAgg5
 z5 := Tryz.sizeOf5
 v5 := Tryz.zeroValue5
 t9 := Tryz.underlying9
 a9 := Tryz.isAgg9
 z9 := Tryz.sizeOf9
 v9 := Tryz.zeroValue9
 t20 := Tryz.underlying20
 a20 := Tryz.isAgg20
 z20 := Tryz.sizeOf20
 v20 := Tryz.zeroValue20
 t21 := Tryz.underlying21
 a21 := Tryz.isAgg21
 z21 := Tryz.sizeOf21
 v21 := Tryz.zeroValue21
 t37 := Tryz.underlying144
 a37 := Tryz.isAgg144
 z37 := Tryz.sizeOf144
 v37 := Tryz.zeroValue144
 t46 := Tryz.underlying119
 a46 := Tryz.isAgg119
 z46 := Tryz.sizeOf119
 v46 := Tryz.zeroValue119
 t51 := Tryz.underlying161
 a51 := Tryz.isAgg161
 z51 := Tryz.sizeOf161
 v51 := Tryz.zeroValue161
 t70 := Tryz.underlying143
 a70 := Tryz.isAgg143
 z70 := Tryz.sizeOf143
 v70 := Tryz.zeroValue143
 t72 := Tryz.underlying146
 a72 := Tryz.isAgg146
 z72 := Tryz.sizeOf146
 v72 := Tryz.zeroValue146
 t75 := Tryz.underlying149
 a75 := Tryz.isAgg149
 z75 := Tryz.sizeOf149
 v75 := Tryz.zeroValue149
 t76 := Tryz.underlying150
 a76 := Tryz.isAgg150
 z76 := Tryz.sizeOf150
 v76 := Tryz.zeroValue150
 t105 := Tryz.underlying199
 a105 := Tryz.isAgg199
 z105 := Tryz.sizeOf199
 v105 := Tryz.zeroValue199
 t119 := Tryz.underlying233
 a119 := Tryz.isAgg233
 z119 := Tryz.sizeOf233
 t127 := Tryz.underlying180
 a127 := Tryz.isAgg180
 z127 := Tryz.sizeOf180
 v127 := Tryz.zeroValue180
 t138 := Tryz.underlying235
 a138 := Tryz.isAgg235
 z138 := Tryz.sizeOf235
 v138 := Tryz.zeroValue235
 t139 := Tryz.underlying236
 a139 := Tryz.isAgg236
 z139 := Tryz.sizeOf236
 v139 := Tryz.zeroValue236
 t146 := Tryz.underlying231
 a146 := Tryz.isAgg231
 z146 := Tryz.sizeOf231
 v146 := Tryz.zeroValue231
 t164 := Tryz.underlying205
 a164 := Tryz.isAgg205
 z164 := Tryz.sizeOf205
 v164 := Tryz.zeroValue205
 g1 := by kernel_rfl
 g3 := by kernel_rfl
 g4 := by kernel_rfl }
theorem Tryz.Builder_Extra_155 : Builder.Extra Tryz.prog Tryz.lays155_ren := {
 sizeBuilder := by kernel_rfl
 liesBuilder := by kernel_rfl
 t5 := Tryz.underlying5
 a5 := Tryz.isAgg5
 z5 := Tryz.sizeOf5
 v5 := Tryz.zeroValue5
 infoByte := by kernel_rfl
 cellsByte := by kernel_rfl
 sizeByte := by kernel_rfl
 neB5 := by decide }
open Go.RowKit Go.Lib in
theorem Tryz.strings_ReplaceAll (s old new : ByteArray) (m : Int) (w : World) (hs : s.size < 4294967281) (hm : w.cell? ⟨0, 0, none⟩ = some (.int .i64 m)) (h1 : 1 ≤ old.size) (hlen : s.size + Lib.countB s old * new.size ≤ 140737488355328) :
 Calls Tryz.prog 208 #[.string s, .string old, .string new] w fun e w' =>
  e = .returned (.string ⟨(Lib.replaceAll s.data.toList old.data.toList new.data.toList).toArray⟩) ∧ Below w.heap.size w w' := Any.strings_ReplaceAll Tryz.lays155 Tryz.Builder_Extra_155 s old new m w hs hm h1 hlen
def Tryz.lays105_ren : Go.Shelf.Ren := ⟨fun | 105 => 227 | 212 => 237 | 99 => 97 | 165 => 104 | 166 => 105 | 170 => 238 | 169 => 106 | 263 => 245 | 264 => 246 | 206 => 138 | 240 => 144 | 241 => 145 | 276 => 173 | 277 => 174 | n => n, fun | 9 => 9 | 3 => 3 | 4 => 4 | 20 => 20 | 0 => 0 | 46 => 119 | 109 => 249 | 5 => 5 | 72 => 146 | 76 => 150 | 51 => 161 | 146 => 231 | 53 => 163 | 148 => 260 | 70 => 143 | 37 => 144 | 75 => 149 | 127 => 180 | 164 => 205 | 80 => 152 | n => n, fun | n => n⟩
theorem Tryz.lays105 : Go.Proofs.Lays.n105 Tryz.prog Tryz.lays105_ren := {
 mixed := by kernel_rfl
 f99 := Tryz.func97.trans (congrArg some (by kernel_rfl))
 f105 := Tryz.func227.trans (congrArg some (by kernel_rfl))
 f165 := Tryz.func104.trans (congrArg some (by kernel_rfl))
 f166 := Tryz.func105.trans (congrArg some (by kernel_rfl))
 f169 := Tryz.func106.trans (congrArg some (by kernel_rfl))
 f170 := Tryz.func238.trans (congrArg some (by kernel_rfl))
 f206 := Tryz.func138.trans (congrArg some (by kernel_rfl))
 f212 := Tryz.func237.trans (congrArg some (by kernel_rfl))
 f240 := Tryz.func144.trans (congrArg some (by kernel_rfl))
 f241 := Tryz.func145.trans (congrArg some (by kernel_rfl))
 f263 := Tryz.func245.trans (congrArg some (by kernel_rfl))
 f264 := Tryz.func246.trans (congrArg some (by kernel_rfl))
 f276 := Tryz.func173.trans (congrArg some (by kernel_rfl))
 f277 := Tryz.func174.trans (congrArg some (by kernel_rfl))
 t0 := Tryz.underlying0
 a0 := Tryz.isAgg0
 z0 := Tryz.sizeOf0
 v0 := Tryz.zeroValue0
 t3 := Tryz.underlying3
 a3 := Tryz.isAgg3
 z3 := Tryz.sizeOf3
 v3 := Tryz.zeroValue3
 t4 := Tryz.underlying4
 a4 := Tryz.isAgg4
 z4 := Tryz.sizeOf4
 v4 := Tryz.zeroValue4
 t5 := Tryz.underlying5
 a5 := Tryz.isAgg5
 z5 := Tryz.sizeOf5
 v5 := Tryz.zeroValue5
 t9 := Tryz.underlying9
 a9 := Tryz.isAgg9
 z9 := Tryz.sizeOf9
 v9 := Tryz.zeroValue9
 t20 := Tryz.underlying20
 a20 := Tryz.isAgg20
 z20 := Tryz.sizeOf20
 v20 := Tryz.zeroValue20
 t37 := Tryz.underlying144
 a37 := Tryz.isAgg144
 z37 := Tryz.sizeOf144
 v37 := Tryz.zeroValue144
 t46 := Tryz.underlying119
 a46 := Tryz.isAgg119
 z46 := Tryz.sizeOf119
 v46 := Tryz.zeroValue119
 t51 := Tryz.underlying161
 a51 := Tryz.isAgg161
 z51 := Tryz.sizeOf161
 v51 := Tryz.zeroValue161
 t53 := Tryz.underlying163
 a53 := Tryz.isAgg163
 z53 := Tryz.sizeOf163
 v53 := Tryz.zeroValue163
 t70 := Tryz.underlying143
 a70 := Tryz.isAgg143
 z70 := Tryz.sizeOf143
 v70 := Tryz.zeroValue143
 t72 := Tryz.underlying146
 a72 := Tryz.isAgg146
 z72 := Tryz.sizeOf146
 v72 := Tryz.zeroValue146
 t75 := Tryz.underlying149
 a75 := Tryz.isAgg149
 z75 := Tryz.sizeOf149
 v75 := Tryz.zeroValue149
 t76 := Tryz.underlying150
 a76 := Tryz.isAgg150
 z76 := Tryz.sizeOf150
 v76 := Tryz.zeroValue150
 t109 := Tryz.underlying249
 a109 := Tryz.isAgg249
 z109 := Tryz.sizeOf249
 v109 := Tryz.zeroValue249
 t127 := Tryz.underlying180
 a127 := Tryz.isAgg180
 z127 := Tryz.sizeOf180
 v127 := Tryz.zeroValue180
 t146 := Tryz.underlying231
 a146 := Tryz.isAgg231
 z146 := Tryz.sizeOf231
 v146 := Tryz.zeroValue231
 t148 := Tryz.underlying260
 a148 := Tryz.isAgg260
 z148 := Tryz.sizeOf260
 v148 := Tryz.zeroValue260
 t164 := Tryz.underlying205
 a164 := Tryz.isAgg205
 z164 := Tryz.sizeOf205
 v164 := Tryz.zeroValue205 }
theorem Tryz.Builder_Extra_105 : Builder.Extra Tryz.prog Tryz.lays105_ren := {
 sizeBuilder := by kernel_rfl
 liesBuilder := by kernel_rfl
 t5 := Tryz.underlying5
 a5 := Tryz.isAgg5
 z5 := Tryz.sizeOf5
 v5 := Tryz.zeroValue5
 infoByte := by kernel_rfl
 cellsByte := by kernel_rfl
 sizeByte := by kernel_rfl
 neB5 := by decide }
open Go.RowKit Go.Lib in
theorem Tryz.strings_Repeat (s : ByteArray) (c : Nat) (w : World) (hc : c ≤ 9223372036854775807) (hlen : s.size * c ≤ 140737488355328) :
 Calls Tryz.prog 227 #[.string s, .int .i64 c] w fun e w' => e = .returned (.string ⟨(Lib.repeatL s.data.toList c).toArray⟩) ∧ Below w.heap.size w w' := Any.strings_Repeat Tryz.lays105 Tryz.Builder_Extra_105 s c w hc hlen
def Tryz.lays110_ren : Go.Shelf.Ren := ⟨fun | 110 => 103 | 109 => 143 | n => n, fun | 31 => 42 | 9 => 9 | 4 => 4 | 3 => 3 | 0 => 0 | n => n, fun | n => n⟩
theorem Tryz.lays110 : Go.Proofs.Lays.n110 Tryz.prog Tryz.lays110_ren := {
 mixed := by kernel_rfl
 f109 := Tryz.func143.trans (congrArg some (by kernel_rfl))
 f110 := Tryz.func103.trans (congrArg some (by kernel_rfl))
 t0 := Tryz.underlying0
 a0 := Tryz.isAgg0
 z0 := Tryz.sizeOf0
 v0 := Tryz.zeroValue0
 t3 := Tryz.underlying3
 a3 := Tryz.isAgg3
 z3 := Tryz.sizeOf3
 v3 := Tryz.zeroValue3
 t4 := Tryz.underlying4
 a4 := Tryz.isAgg4
 z4 := Tryz.sizeOf4
 v4 := Tryz.zeroValue4
 t9 := Tryz.underlying9
 a9 := Tryz.isAgg9
 z9 := Tryz.sizeOf9
 v9 := Tryz.zeroValue9
 t31 := Tryz.underlying42
 a31 := Tryz.isAgg42
 z31 := Tryz.sizeOf42
 v31 := Tryz.zeroValue42 }
open Go.Lib in
theorem Tryz.slices_Contains_string (b off n c : Nat) (zs : List ByteArray) (x : ByteArray) (w : World) (hz : n ≤ zs.length) (hbig : n ≤ 9223372036854775807) (hc : ∀ j, j < zs.length → w.cell? ⟨b, off + j, none⟩ = some (.string (zs.getD j ByteArray.empty))) :
 Calls Tryz.prog 103 #[.slice (some ⟨b, off, none⟩) n c, .string x] w fun e w' => e = .returned (.bool (Lib.containsS (zs.take n) x)) ∧ w' = w := Any.slices_Contains_string Tryz.lays110 b off n c zs x w hz hbig hc
open Go.Lib in
theorem Tryz.slices_Contains_string_empty (a : Option Addr) (c : Nat) (x : ByteArray) (w : World) :
 Calls Tryz.prog 103 #[.slice a 0 c, .string x] w fun e w' => e = .returned (.bool false) ∧ w' = w := Any.slices_Contains_string_empty Tryz.lays110 a c x w
def Tryz.laysNm217_ren : Go.Shelf.Ren := ⟨fun | 17 => 91 | n => n, fun | 24 => 42 | 9 => 9 | 3 => 3 | 4 => 4 | 0 => 0 | n => n, fun | n => n⟩
theorem Tryz.laysNm217 : Go.Proofs.Lays2.n17 Tryz.prog Tryz.laysNm217_ren := {
 mixed := by kernel_rfl
 f17 := Tryz.func91.trans (congrArg some (by kernel_rfl))
 t0 := Tryz.underlying0
 a0 := Tryz.isAgg0
 z0 := Tryz.sizeOf0
 v0 := Tryz.zeroValue0
 t3 := Tryz.underlying3
 a3 := Tryz.isAgg3
 z3 := Tryz.sizeOf3
 v3 := Tryz.zeroValue3
 t4 := Tryz.underlying4
 a4 := Tryz.isAgg4
 z4 := Tryz.sizeOf4
 v4 := Tryz.zeroValue4
 t9 := Tryz.underlying9
 a9 := Tryz.isAgg9
 z9 := Tryz.sizeOf9
 v9 := Tryz.zeroValue9
 t24 := Tryz.underlying42
 a24 := Tryz.isAgg42
 z24 := Tryz.sizeOf42
 v24 := Tryz.zeroValue42 }
open Go.RowKit Go.Lib Go.Sort in
theorem Tryz.slices_Reverse_string_empty (a : Option Addr) (cap : Nat) (w : World) :
 Calls Tryz.prog 91 #[.slice a 0 cap] w fun e w' => e = .returned (.tuple #[]) ∧ w' = w := Any.slices_Reverse_string_empty Tryz.laysNm217 a cap w
def Tryz.laysNm216_ren : Go.Shelf.Ren := ⟨fun | 16 => 101 | n => n, fun | 24 => 42 | 9 => 9 | 4 => 4 | n => n, fun | n => n⟩
theorem Tryz.laysNm216 : Go.Proofs.Lays2.n16 Tryz.prog Tryz.laysNm216_ren := {
 mixed := by kernel_rfl
 f16 := Tryz.func101.trans (congrArg some (by kernel_rfl))
 t4 := Tryz.underlying4
 a4 := Tryz.isAgg4
 z4 := Tryz.sizeOf4
 v4 := Tryz.zeroValue4
 t9 := Tryz.underlying9
 a9 := Tryz.isAgg9
 z9 := Tryz.sizeOf9
 v9 := Tryz.zeroValue9
 t24 := Tryz.underlying42
 a24 := Tryz.isAgg42
 z24 := Tryz.sizeOf42
 v24 := Tryz.zeroValue42
 i9 := by kernel_rfl }
open Go.RowKit Go.Lib in
theorem Tryz.slices_Clone_string (b off n c : Nat) (zs : List ByteArray) (w : World) (hz : n ≤ zs.length) (hbig : n * 16 ≤ 140737488355328) (hc : ∀ j, j < zs.length → w.cell? ⟨b, off + j, none⟩ = some (.string (zs.getD j ByteArray.empty))) :
 Calls Tryz.prog 101 #[.slice (some ⟨b, off, none⟩) n c] w fun e w' => ∃ v', e = .returned v' ∧ w'.ownsRow w.heap.size 9 1 v' n ((zs.take n).map (Value.string)) ∧ v' ≠ .slice none 0 0 ∧ Below w.heap.size w w' := Any.slices_Clone_string Tryz.laysNm216 b off n c zs w hz hbig hc
end Go.Proofs
